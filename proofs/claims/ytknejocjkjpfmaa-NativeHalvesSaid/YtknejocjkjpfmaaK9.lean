/- Part 9 of the proof: own text (Fnatquotient, FnatDiv, FnatSub, FroundUp, FnatAdd, FroundDivide, FroundBits, FroundBinary, FroundScaled, FbinconvConvert). -/
import Derived.Test.YtknejocjkjpfmaaK0
import Derived.Test.YtknejocjkjpfmaaK1
import Derived.Test.YtknejocjkjpfmaaK2
import Derived.Test.YtknejocjkjpfmaaK3
import Derived.Test.YtknejocjkjpfmaaK4
import Derived.Test.YtknejocjkjpfmaaK5
import Derived.Test.YtknejocjkjpfmaaK6
import Derived.Test.YtknejocjkjpfmaaK7
import Derived.Test.YtknejocjkjpfmaaK8
set_option linter.all false
set_option maxRecDepth 20000
namespace Go.Proofs.AMT
open Go.AM Go.AM.LN
attribute [local congr] bindO_congr bindS_congr bindG_congr awpOps_congr aOne_congr awp_congr aCond_congr awpD_congr dOne_congr keysB_congr nOne_congr thenP_congr blockP_congr Chk_congr Brk_congr
noncomputable def s97 : CSpec := fun ds => match ds with
  | [.sl .u64 a, .sl .u64 b] => some (((lim a ∧ sz a = a.length) ∧ a.length ≤ 70000000) ∧ ((lim b ∧ sz b = b.length) ∧ b.length ≤ 70000000) ∧ val b ≠ 0, .many [.fresh .u64 (limbs (val a / val b)), .fresh .u64 (limbs (val a % val b))])
  | _ => none
theorem s97_eq (a : List Int) (b : List Int) : norm s97 [.sl .u64 a, .sl .u64 b] = some (((lim a ∧ sz a = a.length) ∧ a.length ≤ 70000000) ∧ ((lim b ∧ sz b = b.length) ∧ b.length ≤ 70000000) ∧ val b ≠ 0, .many [.fresh .u64 (limbs (val a / val b)), .fresh .u64 (limbs (val a % val b))]) := rfl
theorem s97_nil1  (b : List Int) : norm s97 [.v (.slice none 0 0), .sl .u64 b] = some (((lim ([] : List Int) ∧ sz ([] : List Int) = ([] : List Int).length) ∧ ([] : List Int).length ≤ 70000000) ∧ ((lim b ∧ sz b = b.length) ∧ b.length ≤ 70000000) ∧ val b ≠ 0, .many [.fresh .u64 (limbs (val ([] : List Int) / val b)), .fresh .u64 (limbs (val ([] : List Int) % val b))]) := rfl
theorem s97_nil2 (a : List Int)  : norm s97 [.sl .u64 a, .v (.slice none 0 0)] = some (((lim a ∧ sz a = a.length) ∧ a.length ≤ 70000000) ∧ ((lim ([] : List Int) ∧ sz ([] : List Int) = ([] : List Int).length) ∧ ([] : List Int).length ≤ 70000000) ∧ val ([] : List Int) ≠ 0, .many [.fresh .u64 (limbs (val a / val ([] : List Int))), .fresh .u64 (limbs (val a % val ([] : List Int)))]) := rfl
theorem s97_nil3   : norm s97 [.v (.slice none 0 0), .v (.slice none 0 0)] = some (((lim ([] : List Int) ∧ sz ([] : List Int) = ([] : List Int).length) ∧ ([] : List Int).length ≤ 70000000) ∧ ((lim ([] : List Int) ∧ sz ([] : List Int) = ([] : List Int).length) ∧ ([] : List Int).length ≤ 70000000) ∧ val ([] : List Int) ≠ 0, .many [.fresh .u64 (limbs (val ([] : List Int) / val ([] : List Int))), .fresh .u64 (limbs (val ([] : List Int) % val ([] : List Int)))]) := rfl
noncomputable def G97 : Gam := [(28, .body, norm s28), (43, .body, norm s43), (46, .body, norm s46), (49, .body, norm s49), (103, .body, norm s103), (104, .body, norm s104), (105, .body, norm s105), (106, .body, norm s106)]
theorem G97_ok : GamOk Try.prog G97 := gamOk_cons sound_28 (gamOk_cons sound_43 (gamOk_cons sound_46 (gamOk_cons sound_49 (gamOk_cons sound_103 (gamOk_cons sound_104 (gamOk_cons sound_105 (gamOk_cons sound_106 gamOk_nil)))))))
theorem k97_28 : lk G97 28 = some (.body, norm s28) := rfl
theorem k97_43 : lk G97 43 = some (.body, norm s43) := rfl
theorem k97_46 : lk G97 46 = some (.body, norm s46) := rfl
theorem k97_49 : lk G97 49 = some (.body, norm s49) := rfl
theorem k97_103 : lk G97 103 = some (.body, norm s103) := rfl
theorem k97_104 : lk G97 104 = some (.body, norm s104) := rfl
theorem k97_105 : lk G97 105 = some (.body, norm s105) := rfl
theorem k97_106 : lk G97 106 = some (.body, norm s106) := rfl
set_option maxHeartbeats 20000000 in
theorem w97 (a : List Int) (b : List Int) (hp : ((lim a ∧ sz a = a.length) ∧ a.length ≤ 70000000) ∧ ((lim b ∧ sz b = b.length) ∧ b.length ≤ 70000000) ∧ val b ≠ 0) : awp ty G97 (code Try.f97) (retP ty Try.f97.results.toList (.many [.fresh .u64 (limbs (val a / val b)), .fresh .u64 (limbs (val a % val b))])) (entry 0 [.sl .u64 a, .sl .u64 b]) [] := by
  unfold code
  simp only [Try.f97, Option.getD_some]
  obtain ⟨⟨⟨la, sa⟩, pa⟩, ⟨⟨lb, sb⟩, pb⟩, hb0⟩ := hp
  have za := sz_le a
  have zb := sz_le b
  have hb1 : 1 ≤ b.length := by
    have := (not_congr (sz_zero lb)).2 hb0
    omega
  have eb : ((b.length : Int) - 1).toNat = b.length - 1 := by omega
  have hw := lim_get lb (i := b.length - 1)
  have hbl : blen (b.getD (b.length - 1) 0).toNat ≤ 64 := blen_lt.2 (by omega)
  obtain ⟨sh, hsh⟩ : ∃ sh, 64 - blen (b.getD (b.length - 1) 0).toNat = sh := ⟨_, rfl⟩
  have hsN : (64 : Int) - (blen (b.getD (b.length - 1) 0).toNat : Int) = (sh : Int) := by omega
  have tN : ((sh : Int)).toNat = sh := Int.toNat_natCast sh
  have hw0 : b.getD (b.length - 1) 0 ≠ 0 := by
    have := sz_top (a := b) (by omega)
    rw [sb] at this; exact this
  all_goals repeat' (first
    | ((first
       | (with_reducible refine ops_k ?_; intro X hX)
       | (with_reducible refine opsN_k ?_; intro X hX)
       | (with_reducible show awp _ _ _ _ (keepL _ _) _)
       | with_reducible refine awp_cond_k ?_
       | (with_reducible refine Brk_i ?_ ?_ <;> intro hb <;> (try simp only [hb]) <;> have hq := hb <;> try simp only [decide_eq_true_eq, decide_eq_false_iff_not, gt_iff_lt, ge_iff_le, Int.not_lt, Int.not_le, beq_iff_eq, beq_eq_false_iff_ne, Bool.not_eq_true', Bool.not_eq_false', Bool.and_eq_true, Bool.or_eq_true, Bool.and_eq_false_imp, Bool.or_eq_false_iff, ne_eq, Classical.not_not] at hq)
       | with_reducible refine retP_ret_i ?_
       | with_reducible refine retP_normal_i ?_
       | (with_reducible (show bindG _ _ _ _ _); simp only [hall])) <;> try simp only [Go.AM.S1, Go.AM.S2, Go.AM.S3, Go.AM.S4, Go.AM.S5, Go.AM.S6, Go.AM.S7, Go.AM.S8, Go.AM.S9, Nat.reduceAdd, Nat.reduceMul, Nat.reduceSub, ↓reduceIte, Nat.reduceEqDiff, Nat.reduceLT, Nat.reduceLeDiff, reduceCtorEq, Int.reduceBEq, Int.reduceBNe, Nat.reduceBEq, Int.reduceEq, Int.reduceToNat, Int.reduceLE, Int.reduceLT, Nat.reduceDiv, Int.reduceAdd, Int.reduceSub, Int.reduceMul, Int.reduceNeg, Int.reduceGT, Int.reduceGE, Nat.reduceMod, k97_28, s28_eq, k97_43, s43_eq, s43_nil1, k97_46, s46_eq, s46_nil1, s46_nil2, s46_nil3, k97_49, s49_eq, s49_nil1, k97_103, s103_eq, s103_nil1, k97_104, s104_eq, k97_105, s105_eq, s105_nil1, k97_106, s106_eq, s106_nil1, s106_nil2, s106_nil3, ty_3, ty_26, ty_42, cmpI_neg, eb, val_limbs, hsN, tN])
    | (with_reducible refine hX _ _ ?_; clear hX X)
    | (with_reducible refine ops_nil_i ?_; try clear hall all)
    | (with_reducible refine opsN_nil_i ?_; try clear hall all)
    | (with_reducible refine hK _ _ ?_; clear hK K)
    | with_reducible refine thenP_normal_i ?_
    | (with_reducible refine zzr11 _ _ ?_; try clear zzr11 Kzzr11)
    | (with_reducible refine zzr10 _ _ ?_; try clear zzr10 Kzzr10)
    | (with_reducible refine zzr9 _ _ ?_; try clear zzr9 Kzzr9)
    | (with_reducible refine zzr8 _ _ ?_; try clear zzr8 Kzzr8)
    | (with_reducible refine zzr7 _ _ ?_; try clear zzr7 Kzzr7)
    | (with_reducible refine zzr6 _ _ ?_; try clear zzr6 Kzzr6)
    | (with_reducible refine zzb0 _ _ ?_; try clear zzb0 Kzzb0)
    | (with_reducible refine zzr2 _ _ ?_; try clear zzr2 Kzzr2)
    | (with_reducible refine zzr5 _ _ ?_; try clear zzr5 Kzzr5)
    | (with_reducible refine zzr4 _ _ ?_; try clear zzr4 Kzzr4)
    | (with_reducible refine zzr3 _ _ ?_; try clear zzr3 Kzzr3)
    | (with_reducible refine zzr1 _ _ ?_; try clear zzr1 Kzzr1)
    | (with_reducible refine zzr0 _ _ ?_; try clear zzr0 Kzzr0)
    | (with_reducible refine awp_seq_l (a := .region 11 _ _) [4, 5] ?_; intro Kzzr11 zzr11)
    | (with_reducible refine awp_seq_l (a := .region 10 _ _) [13, 14] ?_; intro Kzzr10 zzr10)
    | (with_reducible refine awp_seq_l (a := .region 9 _ _) [8, 13, 14] ?_; intro Kzzr9 zzr9)
    | (with_reducible refine awp_seq_l (a := .region 8 _ _) [8, 9, 11] ?_; intro Kzzr8 zzr8)
    | (with_reducible refine awp_seq_l (a := .region 7 _ _) [1, 8, 9] ?_; intro Kzzr7 zzr7)
    | (with_reducible refine awp_seq_l (a := .region 6 _ _) [0, 1, 8] ?_; intro Kzzr6 zzr6)
    | (with_reducible refine awp_seq_l (a := .block 0 _) [0, 1] ?_; intro Kzzb0 zzb0)
    | (with_reducible refine awp_seq_l (a := .region 2 _ _) [4, 5] ?_; intro Kzzr2 zzr2)
    | (with_reducible refine awp_seq_l (a := .region 5 _ _) [4, 5] ?_; intro Kzzr5 zzr5)
    | (with_reducible refine awp_seq_l (a := .region 4 _ _) [6, 7] ?_; intro Kzzr4 zzr4)
    | (with_reducible refine awp_seq_l (a := .region 3 _ _) [0, 1, 22] ?_; intro Kzzr3 zzr3)
    | (with_reducible refine awp_seq_l (a := .region 1 _ _) [0, 1, 15] ?_; intro Kzzr1 zzr1)
    | (with_reducible refine awp_seq_l (a := .region 0 _ _) [0, 1] ?_; intro Kzzr0 zzr0)
    | (with_reducible refine awp_seq_k ?_; intro K hK)
    | (with_reducible refine awp_region_a ?_; intro all hall K hK)
    | (with_reducible refine awp_draw_n ?_ ?_; kernel_rfl; intro all hall K hK)
    | (with_reducible refine Chk_i ?_ ?_)
    | (with_reducible refine keysC_i ?_; kernel_rfl)
    | (with_reducible first | refine awp_block_i ?_ | refine awp_skip_i ?_ | refine awp_ret_i ?_ | refine awp_exit_i ?_ | refine thenP_ret_i ?_ | refine thenP_exit_i ?_ | refine lpP_ret_i ?_ | refine lpP_exit_i ?_ | refine unrP_succ_i ?_ | refine unrP_ret_i ?_ | refine unrP_exit_i ?_ | refine blockP_normal_i ?_ | refine blockP_ret_i ?_)
    | (with_reducible refine blockP_exit_i ?_; simp only [↓reduceIte, Nat.reduceEqDiff])
    | with_reducible refine lpP_normal_i ?_)
  all_goals (try clear zzr0; try clear Kzzr0)
  all_goals (try clear zzr1; try clear Kzzr1)
  all_goals (try clear zzr3; try clear Kzzr3)
  all_goals (try clear zzr4; try clear Kzzr4)
  all_goals (try clear zzr5; try clear Kzzr5)
  all_goals (try clear zzr2; try clear Kzzr2)
  all_goals (try clear zzb0; try clear Kzzb0)
  all_goals (try clear zzr6; try clear Kzzr6)
  all_goals (try clear zzr7; try clear Kzzr7)
  all_goals (try clear zzr8; try clear Kzzr8)
  all_goals (try clear zzr9; try clear Kzzr9)
  all_goals (try clear zzr10; try clear Kzzr10)
  all_goals (try clear zzr11; try clear Kzzr11)
  all_goals (try simp only [inR])
  all_goals (have hsh63 : sh ≤ 63 := by have := @blen_zero (b.getD (b.length - 1) 0).toNat; omega)
  all_goals first
    | omega
    | skip
  · exact ⟨⟨la, by omega⟩, lb, by omega⟩
  · exact ⟨la, by omega⟩
  · rw [Nat.div_eq_of_lt hq, Nat.mod_eq_of_lt hq]; exact ⟨rfl, rfl⟩
  · have h0 : b.length - 1 = 0 := by omega
    rw [h0] at hw hw0
    exact ⟨⟨la, by omega⟩, by omega, by omega⟩
  · have h0 : b.length - 1 = 0 := by omega
    rw [h0] at hw hw0
    have := Nat.mod_lt (val a) (show 0 < (b.getD 0 0).toNat by omega)
    generalize val a % (b.getD 0 0).toNat = r at *
    omega
  · have h1 := val_one_word (b := b) (by omega)
    rw [h1]; exact ⟨rfl, rfl⟩
  · exact ⟨⟨la, by omega⟩, by omega, by omega⟩
  · exact ⟨⟨lb, by omega⟩, by omega, by omega⟩
  · have h1 := norm_len lb sb (by omega) hsh
    have h2 := len_shift (a := val a) (s := sh) (by omega)
    have h3 := len_limbs_sz la
    exact ⟨⟨lim_limbs _, by omega⟩, ⟨lim_limbs _, by omega⟩, by omega, h1.2⟩
  · have h1 := norm_len lb sb (by omega) hsh
    have h2 : 0 < val b * 2 ^ sh := Nat.mul_pos (by omega) (Nat.two_pow_pos _)
    have h3 := len_mono (Nat.le_of_lt (Nat.mod_lt (val a * 2 ^ sh) h2))
    exact ⟨⟨lim_limbs _, by omega⟩, by omega, by omega⟩
  · rw [shift_back.1, shift_back.2]; exact ⟨rfl, rfl⟩
theorem sound_97 : Sound Try.prog 97 .body (norm s97) := by
  refine sound_norm (sound_body Try.func97 (show Try.f97.body = some (code Try.f97) from rfl) (by kernel_rfl) tysOk G97_ok (drawOk_ok (by kernel_rfl) tysOk G97_ok) (by kernel_rfl) fun ds p r hs hp => ?_)
  unfold s97 at hs
  split at hs
  · cases hs; exact ⟨Nat.le_of_ble_eq_true (by kernel_rfl), w97 _ _ hp⟩
  · cases hs
end Go.Proofs.AMT
set_option maxRecDepth 20000
namespace Go.Proofs.AMT
open Go.AM Go.AM.LN
attribute [local congr] bindO_congr bindS_congr bindG_congr awpOps_congr aOne_congr awp_congr aCond_congr awpD_congr dOne_congr keysB_congr nOne_congr thenP_congr blockP_congr Chk_congr Brk_congr
noncomputable def s75 : CSpec := fun ds => match ds with
  | [.sl .u64 a, .sl .u64 b] => some ((lim a ∧ a.length ≤ 70000000) ∧ (lim b ∧ b.length ≤ 70000000) ∧ val b ≠ 0 ∧ sz a ≤ 2000 ∧ sz b ≤ 2000, .many [.fresh .u64 (limbs (val a / val b)), .fresh .u64 (limbs (val a % val b)), .v (.int .i64 0)])
  | _ => none
theorem s75_eq (a : List Int) (b : List Int) : norm s75 [.sl .u64 a, .sl .u64 b] = some ((lim a ∧ a.length ≤ 70000000) ∧ (lim b ∧ b.length ≤ 70000000) ∧ val b ≠ 0 ∧ sz a ≤ 2000 ∧ sz b ≤ 2000, .many [.fresh .u64 (limbs (val a / val b)), .fresh .u64 (limbs (val a % val b)), .v (.int .i64 0)]) := rfl
theorem s75_nil1  (b : List Int) : norm s75 [.v (.slice none 0 0), .sl .u64 b] = some ((lim ([] : List Int) ∧ ([] : List Int).length ≤ 70000000) ∧ (lim b ∧ b.length ≤ 70000000) ∧ val b ≠ 0 ∧ sz ([] : List Int) ≤ 2000 ∧ sz b ≤ 2000, .many [.fresh .u64 (limbs (val ([] : List Int) / val b)), .fresh .u64 (limbs (val ([] : List Int) % val b)), .v (.int .i64 0)]) := rfl
theorem s75_nil2 (a : List Int)  : norm s75 [.sl .u64 a, .v (.slice none 0 0)] = some ((lim a ∧ a.length ≤ 70000000) ∧ (lim ([] : List Int) ∧ ([] : List Int).length ≤ 70000000) ∧ val ([] : List Int) ≠ 0 ∧ sz a ≤ 2000 ∧ sz ([] : List Int) ≤ 2000, .many [.fresh .u64 (limbs (val a / val ([] : List Int))), .fresh .u64 (limbs (val a % val ([] : List Int))), .v (.int .i64 0)]) := rfl
theorem s75_nil3   : norm s75 [.v (.slice none 0 0), .v (.slice none 0 0)] = some ((lim ([] : List Int) ∧ ([] : List Int).length ≤ 70000000) ∧ (lim ([] : List Int) ∧ ([] : List Int).length ≤ 70000000) ∧ val ([] : List Int) ≠ 0 ∧ sz ([] : List Int) ≤ 2000 ∧ sz ([] : List Int) ≤ 2000, .many [.fresh .u64 (limbs (val ([] : List Int) / val ([] : List Int))), .fresh .u64 (limbs (val ([] : List Int) % val ([] : List Int))), .v (.int .i64 0)]) := rfl
noncomputable def G75 : Gam := [(71, .body, norm s71), (97, .body, norm s97)]
theorem G75_ok : GamOk Try.prog G75 := gamOk_cons sound_71 (gamOk_cons sound_97 gamOk_nil)
theorem k75_71 : lk G75 71 = some (.body, norm s71) := rfl
theorem k75_97 : lk G75 97 = some (.body, norm s97) := rfl
set_option maxHeartbeats 20000000 in
theorem w75 (a : List Int) (b : List Int) (hp : (lim a ∧ a.length ≤ 70000000) ∧ (lim b ∧ b.length ≤ 70000000) ∧ val b ≠ 0 ∧ sz a ≤ 2000 ∧ sz b ≤ 2000) : awp ty G75 (code Try.f75) (retP ty Try.f75.results.toList (.many [.fresh .u64 (limbs (val a / val b)), .fresh .u64 (limbs (val a % val b)), .v (.int .i64 0)])) (entry 0 [.sl .u64 a, .sl .u64 b]) [] := by
  unfold code
  simp only [Try.f75, Option.getD_some]
  have za := sz_le a
  have zb := sz_le b
  have ya := len_limbs_sz hp.1.1
  have yb := len_limbs_sz hp.2.1.1
  have xb := (not_congr (sz_zero hp.2.1.1)).2 hp.2.2.1
  have wa := sz_limbs (val a)
  have wb := sz_limbs (val b)
  all_goals repeat' (first
    | ((first
       | (with_reducible refine ops_k ?_; intro X hX)
       | (with_reducible refine opsN_k ?_; intro X hX)
       | (with_reducible show awp _ _ _ _ (keepL _ _) _)
       | with_reducible refine awp_cond_k ?_
       | (with_reducible refine Brk_i ?_ ?_ <;> intro hb <;> (try simp only [hb]) <;> have hq := hb <;> try simp only [decide_eq_true_eq, decide_eq_false_iff_not, gt_iff_lt, ge_iff_le, Int.not_lt, Int.not_le, beq_iff_eq, beq_eq_false_iff_ne, Bool.not_eq_true', Bool.not_eq_false', Bool.and_eq_true, Bool.or_eq_true, Bool.and_eq_false_imp, Bool.or_eq_false_iff, ne_eq, Classical.not_not] at hq)
       | with_reducible refine retP_ret_i ?_
       | with_reducible refine retP_normal_i ?_
       | (with_reducible (show bindG _ _ _ _ _); simp only [hall])) <;> try simp only [Go.AM.S1, Go.AM.S2, Go.AM.S3, Go.AM.S4, Go.AM.S5, Go.AM.S6, Go.AM.S7, Go.AM.S8, Go.AM.S9, Nat.reduceAdd, Nat.reduceMul, Nat.reduceSub, ↓reduceIte, Nat.reduceEqDiff, Nat.reduceLT, Nat.reduceLeDiff, reduceCtorEq, Int.reduceBEq, Int.reduceBNe, Nat.reduceBEq, Int.reduceEq, Int.reduceToNat, Int.reduceLE, Int.reduceLT, Nat.reduceDiv, Int.reduceAdd, Int.reduceSub, Int.reduceMul, Int.reduceNeg, Int.reduceGT, Int.reduceGE, Nat.reduceMod, k75_71, s71_eq, s71_nil1, k75_97, s97_eq, s97_nil1, s97_nil2, s97_nil3, ty_3, ty_26, ty_42, take_sz hp.1.1, take_sz hp.2.1.1, val_limbs])
    | (with_reducible refine hX _ _ ?_; clear hX X)
    | (with_reducible refine ops_nil_i ?_; try clear hall all)
    | (with_reducible refine opsN_nil_i ?_; try clear hall all)
    | (with_reducible refine hK _ _ ?_; clear hK K)
    | with_reducible refine thenP_normal_i ?_
    | (with_reducible refine zzr7 _ _ ?_; try clear zzr7 Kzzr7)
    | (with_reducible refine zzr6 _ _ ?_; try clear zzr6 Kzzr6)
    | (with_reducible refine zzb0 _ _ ?_; try clear zzb0 Kzzb0)
    | (with_reducible refine zzr3 _ _ ?_; try clear zzr3 Kzzr3)
    | (with_reducible refine zzr5 _ _ ?_; try clear zzr5 Kzzr5)
    | (with_reducible refine zzr4 _ _ ?_; try clear zzr4 Kzzr4)
    | (with_reducible refine zzr2 _ _ ?_; try clear zzr2 Kzzr2)
    | (with_reducible refine zzr1 _ _ ?_; try clear zzr1 Kzzr1)
    | (with_reducible refine zzr0 _ _ ?_; try clear zzr0 Kzzr0)
    | (with_reducible refine awp_seq_l (a := .region 7 _ _) [4, 5, 6] ?_; intro Kzzr7 zzr7)
    | (with_reducible refine awp_seq_l (a := .region 6 _ _) [7, 8] ?_; intro Kzzr6 zzr6)
    | (with_reducible refine awp_seq_l (a := .block 0 _) [0, 1] ?_; intro Kzzb0 zzb0)
    | (with_reducible refine awp_seq_l (a := .region 3 _ _) [4, 5, 6] ?_; intro Kzzr3 zzr3)
    | (with_reducible refine awp_seq_l (a := .region 5 _ _) [4, 5, 6] ?_; intro Kzzr5 zzr5)
    | (with_reducible refine awp_seq_l (a := .region 4 _ _) [0, 1, 21] ?_; intro Kzzr4 zzr4)
    | (with_reducible refine awp_seq_l (a := .region 2 _ _) [0, 1, 17] ?_; intro Kzzr2 zzr2)
    | (with_reducible refine awp_seq_l (a := .region 1 _ _) [0, 1] ?_; intro Kzzr1 zzr1)
    | (with_reducible refine awp_seq_l (a := .region 0 _ _) [0, 1] ?_; intro Kzzr0 zzr0)
    | (with_reducible refine awp_seq_k ?_; intro K hK)
    | (with_reducible refine awp_region_a ?_; intro all hall K hK)
    | (with_reducible refine awp_draw_n ?_ ?_; kernel_rfl; intro all hall K hK)
    | (with_reducible refine Chk_i ?_ ?_)
    | (with_reducible refine keysC_i ?_; kernel_rfl)
    | (with_reducible first | refine awp_block_i ?_ | refine awp_skip_i ?_ | refine awp_ret_i ?_ | refine awp_exit_i ?_ | refine thenP_ret_i ?_ | refine thenP_exit_i ?_ | refine lpP_ret_i ?_ | refine lpP_exit_i ?_ | refine unrP_succ_i ?_ | refine unrP_ret_i ?_ | refine unrP_exit_i ?_ | refine blockP_normal_i ?_ | refine blockP_ret_i ?_)
    | (with_reducible refine blockP_exit_i ?_; simp only [↓reduceIte, Nat.reduceEqDiff])
    | with_reducible refine lpP_normal_i ?_)
  all_goals (try clear zzr0; try clear Kzzr0)
  all_goals (try clear zzr1; try clear Kzzr1)
  all_goals (try clear zzr2; try clear Kzzr2)
  all_goals (try clear zzr4; try clear Kzzr4)
  all_goals (try clear zzr5; try clear Kzzr5)
  all_goals (try clear zzr3; try clear Kzzr3)
  all_goals (try clear zzb0; try clear Kzzb0)
  all_goals (try clear zzr6; try clear Kzzr6)
  all_goals (try clear zzr7; try clear Kzzr7)
  all_goals (try simp only [inR])
  all_goals first
    | omega
    | exact ⟨⟨⟨lim_limbs _, sz_limbs _⟩, by omega⟩, ⟨⟨lim_limbs _, sz_limbs _⟩, by omega⟩, hp.2.2.1⟩
    | rfl
theorem sound_75 : Sound Try.prog 75 .body (norm s75) := by
  refine sound_norm (sound_body Try.func75 (show Try.f75.body = some (code Try.f75) from rfl) (by kernel_rfl) tysOk G75_ok (drawOk_ok (by kernel_rfl) tysOk G75_ok) (by kernel_rfl) fun ds p r hs hp => ?_)
  unfold s75 at hs
  split at hs
  · cases hs; exact ⟨Nat.le_of_ble_eq_true (by kernel_rfl), w75 _ _ hp⟩
  · cases hs
end Go.Proofs.AMT
set_option maxRecDepth 20000
namespace Go.Proofs.AMT
open Go.AM Go.AM.LN
attribute [local congr] bindO_congr bindS_congr bindG_congr awpOps_congr aOne_congr awp_congr aCond_congr awpD_congr dOne_congr keysB_congr nOne_congr thenP_congr blockP_congr Chk_congr Brk_congr
noncomputable def s76 : CSpec := fun ds => match ds with
  | [.sl .u64 a, .sl .u64 b] => some ((lim a ∧ a.length ≤ 90000000) ∧ (lim b ∧ b.length ≤ 90000000) ∧ val b ≤ val a, .many [.fresh .u64 (limbs (val a - val b)), .v (.int .i64 0)])
  | _ => none
theorem s76_eq (a : List Int) (b : List Int) : norm s76 [.sl .u64 a, .sl .u64 b] = some ((lim a ∧ a.length ≤ 90000000) ∧ (lim b ∧ b.length ≤ 90000000) ∧ val b ≤ val a, .many [.fresh .u64 (limbs (val a - val b)), .v (.int .i64 0)]) := rfl
theorem s76_nil1  (b : List Int) : norm s76 [.v (.slice none 0 0), .sl .u64 b] = some ((lim ([] : List Int) ∧ ([] : List Int).length ≤ 90000000) ∧ (lim b ∧ b.length ≤ 90000000) ∧ val b ≤ val ([] : List Int), .many [.fresh .u64 (limbs (val ([] : List Int) - val b)), .v (.int .i64 0)]) := rfl
theorem s76_nil2 (a : List Int)  : norm s76 [.sl .u64 a, .v (.slice none 0 0)] = some ((lim a ∧ a.length ≤ 90000000) ∧ (lim ([] : List Int) ∧ ([] : List Int).length ≤ 90000000) ∧ val ([] : List Int) ≤ val a, .many [.fresh .u64 (limbs (val a - val ([] : List Int))), .v (.int .i64 0)]) := rfl
theorem s76_nil3   : norm s76 [.v (.slice none 0 0), .v (.slice none 0 0)] = some ((lim ([] : List Int) ∧ ([] : List Int).length ≤ 90000000) ∧ (lim ([] : List Int) ∧ ([] : List Int).length ≤ 90000000) ∧ val ([] : List Int) ≤ val ([] : List Int), .many [.fresh .u64 (limbs (val ([] : List Int) - val ([] : List Int))), .v (.int .i64 0)]) := rfl
noncomputable def G76 : Gam := [(43, .body, norm s43), (46, .body, norm s46), (71, .body, norm s71), (98, .ext, sSub64)]
theorem G76_ok : GamOk Try.prog G76 := gamOk_cons sound_43 (gamOk_cons sound_46 (gamOk_cons sound_71 (gamOk_cons ext_98 gamOk_nil)))
theorem k76_43 : lk G76 43 = some (.body, norm s43) := rfl
theorem k76_46 : lk G76 46 = some (.body, norm s46) := rfl
theorem k76_71 : lk G76 71 = some (.body, norm s71) := rfl
theorem k76_98 : lk G76 98 = some (.ext, sSub64) := rfl
set_option maxHeartbeats 20000000 in
theorem w76 (a : List Int) (b : List Int) (hp : (lim a ∧ a.length ≤ 90000000) ∧ (lim b ∧ b.length ≤ 90000000) ∧ val b ≤ val a) : awp ty G76 (code Try.f76) (retP ty Try.f76.results.toList (.many [.fresh .u64 (limbs (val a - val b)), .v (.int .i64 0)])) (entry 0 [.sl .u64 a, .sl .u64 b]) [] := by
  unfold code
  simp only [Try.f76, Option.getD_some]
  have ya := len_limbs_sz hp.1.1
  have za := sz_le a
  have hc : decide (cmpI (val a) (val b) < 0) = false := by simp only [cmpI_neg, decide_eq_false_iff_not]; omega
  all_goals repeat' (first
    | ((first
       | (with_reducible refine ops_k ?_; intro X hX)
       | (with_reducible refine opsN_k ?_; intro X hX)
       | (with_reducible show awp _ _ _ _ (keepL _ _) _)
       | with_reducible refine awp_cond_k ?_
       | (with_reducible refine Brk_i ?_ ?_ <;> intro hb <;> (try simp only [hb]) <;> have hq := hb <;> try simp only [decide_eq_true_eq, decide_eq_false_iff_not, gt_iff_lt, ge_iff_le, Int.not_lt, Int.not_le, beq_iff_eq, beq_eq_false_iff_ne, Bool.not_eq_true', Bool.not_eq_false', Bool.and_eq_true, Bool.or_eq_true, Bool.and_eq_false_imp, Bool.or_eq_false_iff, ne_eq, Classical.not_not] at hq)
       | with_reducible refine retP_ret_i ?_
       | with_reducible refine retP_normal_i ?_
       | (with_reducible (show bindG _ _ _ _ _); simp only [hall])) <;> try simp only [Go.AM.S1, Go.AM.S2, Go.AM.S3, Go.AM.S4, Go.AM.S5, Go.AM.S6, Go.AM.S7, Go.AM.S8, Go.AM.S9, Nat.reduceAdd, Nat.reduceMul, Nat.reduceSub, ↓reduceIte, Nat.reduceEqDiff, Nat.reduceLT, Nat.reduceLeDiff, reduceCtorEq, Int.reduceBEq, Int.reduceBNe, Nat.reduceBEq, Int.reduceEq, Int.reduceToNat, Int.reduceLE, Int.reduceLT, Nat.reduceDiv, Int.reduceAdd, Int.reduceSub, Int.reduceMul, Int.reduceNeg, Int.reduceGT, Int.reduceGE, Nat.reduceMod, k76_43, s43_eq, s43_nil1, k76_46, s46_eq, s46_nil1, s46_nil2, s46_nil3, k76_71, s71_eq, s71_nil1, k76_98, sSub64_eq, ty_3, ty_26, ty_42, hc])
    | (with_reducible refine hX _ _ ?_; clear hX X)
    | (with_reducible refine ops_nil_i ?_; try clear hall all)
    | (with_reducible refine opsN_nil_i ?_; try clear hall all)
    | (with_reducible refine hK _ _ ?_; clear hK K)
    | with_reducible refine thenP_normal_i ?_
    | (with_reducible refine zzr13 _ _ ?_; try clear zzr13 Kzzr13)
    | (with_reducible refine zzsr5 _ _ ?_; try clear zzsr5 Kzzsr5)
    | (with_reducible refine zzb1 _ _ ?_; try clear zzb1 Kzzb1)
    | (with_reducible refine zzsr9 _ _ ?_; try clear zzsr9 Kzzsr9)
    | (with_reducible refine zzr9 _ _ ?_; try clear zzr9 Kzzr9)
    | (with_reducible refine zzr8 _ _ ?_; try clear zzr8 Kzzr8)
    | (with_reducible refine zzr7 _ _ ?_; try clear zzr7 Kzzr7)
    | (with_reducible refine zzctmp19 _ _ ?_; try clear zzctmp19 Kzzctmp19)
    | (with_reducible refine zzr6 _ _ ?_; try clear zzr6 Kzzr6)
    | (with_reducible refine zzr5 _ _ ?_; try clear zzr5 Kzzr5)
    | (with_reducible refine zzr4 _ _ ?_; try clear zzr4 Kzzr4)
    | (with_reducible refine zzr3 _ _ ?_; try clear zzr3 Kzzr3)
    | (with_reducible refine zzsr1 _ _ ?_; try clear zzsr1 Kzzsr1)
    | (with_reducible refine zzr2 _ _ ?_; try clear zzr2 Kzzr2)
    | (with_reducible refine zzr1 _ _ ?_; try clear zzr1 Kzzr1)
    | (with_reducible refine zzr0 _ _ ?_; try clear zzr0 Kzzr0)
    | (with_reducible refine awp_lp (σ := Nat × Nat × List Int) (fun s => s.1 ≤ (limbs (val a)).length ∧ s.2.1 ≤ 1 ∧ lim s.2.2 ∧ s.2.2.length = (limbs (val a)).length ∧ s.2.2.drop s.1 = (limbs (val a)).drop s.1 ∧ val (s.2.2.take s.1) + val (b.take s.1) = val ((limbs (val a)).take s.1) + s.2.1 * 2 ^ (64 * s.1)) (fun s => [(1, .rd .u64 b), (6, .ow 240), (7, .v (.int .u64 s.2.1)), (17, .v (.int .i64 (limbs (val a)).length)), (18, .v (.int .i64 s.1))]) (fun s => [(240, .ints .u64 s.2.2, false)]) (fun s => (limbs (val a)).length - s.1) (0, 0, limbs (val a)) ?_ ?_ (fun s hs => ?_))
    | (with_reducible refine awp_seq_l (a := .region 13 _ _) [4, 5] ?_; intro Kzzr13 zzr13)
    | (with_reducible refine awp_seq_l (a := .seq (.region 5 _ _) _) [6] ?_; intro Kzzsr5 zzsr5)
    | (with_reducible refine awp_seq_l (a := .block 1 _) [1, 6, 7, 17, 18] ?_; intro Kzzb1 zzb1)
    | (with_reducible refine awp_seq_l (a := .seq (.region 9 _ _) _) [1, 6, 7, 8, 9, 17, 18] ?_; intro Kzzsr9 zzsr9)
    | (with_reducible refine awp_seq_l (a := .region 9 _ _) [1, 6, 7, 8, 9, 17, 18, 24] ?_; intro Kzzr9 zzr9)
    | (with_reducible refine awp_seq_l (a := .region 8 _ _) [1, 6, 7, 8, 9, 17, 18] ?_; intro Kzzr8 zzr8)
    | (with_reducible refine awp_seq_l (a := .region 7 _ _) [1, 6, 7, 8, 17, 18] ?_; intro Kzzr7 zzr7)
    | (with_reducible refine awp_seq_l (a := .cond (.tmp 19) _ _) [1, 6, 7, 17, 18] ?_; intro Kzzctmp19 zzctmp19)
    | (with_reducible refine awp_seq_l (a := .region 6 _ _) [1, 6, 7, 17, 18, 19] ?_; intro Kzzr6 zzr6)
    | (with_reducible refine awp_seq_l (a := .region 5 _ _) [1, 6, 7, 17, 18] ?_; intro Kzzr5 zzr5)
    | (with_reducible refine awp_seq_l (a := .region 4 _ _) [1, 6, 7] ?_; intro Kzzr4 zzr4)
    | (with_reducible refine awp_seq_l (a := .region 3 _ _) [1, 6] ?_; intro Kzzr3 zzr3)
    | (with_reducible refine awp_seq_l (a := .seq (.region 1 _ _) _) [0, 1] ?_; intro Kzzsr1 zzsr1)
    | (with_reducible refine awp_seq_l (a := .region 2 _ _) [4, 5] ?_; intro Kzzr2 zzr2)
    | (with_reducible refine awp_seq_l (a := .region 1 _ _) [0, 1, 13] ?_; intro Kzzr1 zzr1)
    | (with_reducible refine awp_seq_l (a := .region 0 _ _) [0, 1] ?_; intro Kzzr0 zzr0)
    | (with_reducible refine awp_seq_k ?_; intro K hK)
    | (with_reducible refine awp_region_a ?_; intro all hall K hK)
    | (with_reducible refine awp_draw_n ?_ ?_; kernel_rfl; intro all hall K hK)
    | (with_reducible refine Chk_i ?_ ?_)
    | (with_reducible refine keysC_i ?_; kernel_rfl)
    | (with_reducible first | refine awp_block_i ?_ | refine awp_skip_i ?_ | refine awp_ret_i ?_ | refine awp_exit_i ?_ | refine thenP_ret_i ?_ | refine thenP_exit_i ?_ | refine lpP_ret_i ?_ | refine lpP_exit_i ?_ | refine unrP_succ_i ?_ | refine unrP_ret_i ?_ | refine unrP_exit_i ?_ | refine blockP_normal_i ?_ | refine blockP_ret_i ?_)
    | (with_reducible refine blockP_exit_i ?_; simp only [↓reduceIte, Nat.reduceEqDiff])
    | with_reducible refine lpP_normal_i ?_)
  all_goals (try clear zzr0; try clear Kzzr0)
  all_goals (try clear zzr1; try clear Kzzr1)
  all_goals (try clear zzr2; try clear Kzzr2)
  all_goals (try clear zzsr1; try clear Kzzsr1)
  all_goals (try clear zzr3; try clear Kzzr3)
  all_goals (try clear zzr4; try clear Kzzr4)
  all_goals (try clear zzr5; try clear Kzzr5)
  all_goals (try clear zzr6; try clear Kzzr6)
  all_goals (try clear zzctmp19; try clear Kzzctmp19)
  all_goals (try clear zzr7; try clear Kzzr7)
  all_goals (try clear zzr8; try clear Kzzr8)
  all_goals (try clear zzr9; try clear Kzzr9)
  all_goals (try clear zzsr9; try clear Kzzsr9)
  all_goals (try clear zzb1; try clear Kzzb1)
  all_goals (try clear zzsr5; try clear Kzzsr5)
  all_goals (try clear zzr13; try clear Kzzr13)
  all_goals (try (rcases s with ⟨i, c, o⟩))
  all_goals (try dsimp only at *)
  all_goals (try simp only [inR])
  all_goals (try omega)
  · exact ⟨⟨hp.1.1, by omega⟩, hp.2.1.1, by omega⟩
  · exact ⟨hp.1.1, by omega⟩
  · exact ⟨Nat.zero_le _, by omega, lim_limbs _, trivial, trivial, by simp [val]⟩
  · exact Ent.refl _ _
  · have h1 := lim_get hs.2.2.1 (i := i)
    have h2 := lim_get hp.2.1.1 (i := i)
    omega
  · have h1 := lim_get hs.2.2.1 (i := i)
    have h2 := lim_get hp.2.1.1 (i := i)
    have h3 := sub_step hs.2.2.1 hp.2.1.1 hs.2.1 (by omega) hs.2.2.2.2.1 hs.2.2.2.1 hs.2.2.2.2.2
    have h4 := drop_succ_of hs.2.2.2.2.1
    by_cases hlt : o.getD i 0 < b.getD i 0 + (c : Int)
    · rw [if_pos hlt] at h3 ⊢
      refine ⟨(i + 1, 1, o.set i ((o.getD i 0 - b.getD i 0 - (c : Int)) % 18446744073709551616)), by (refine ent_ok [(240, 240)] rfl ?_ ?_ <;> simp only [memLe, slotsLe, AvLe, lk, ↓reduceIte, Nat.reduceEqDiff, Option.isSome_some, and_self, and_true, true_and, reduceCtorEq, List.map_nil, List.map_cons, Option.some.injEq, AV.v.injEq, Value.int.injEq, Value.bool.injEq, AV.rd.injEq, AV.ow.injEq, AV.al.injEq, AV.ref.injEq] <;> omega), ⟨by dsimp only; omega, by dsimp only; omega, lim_set hs.2.2.1 (by omega) i, by simp [hs.2.2.2.1], by dsimp only; rw [drop_set_succ, h4], h3⟩, by dsimp only; omega⟩
    · rw [if_neg hlt] at h3 ⊢
      refine ⟨(i + 1, 0, o.set i ((o.getD i 0 - b.getD i 0 - (c : Int)) % 18446744073709551616)), by (refine ent_ok [(240, 240)] rfl ?_ ?_ <;> simp only [memLe, slotsLe, AvLe, lk, ↓reduceIte, Nat.reduceEqDiff, Option.isSome_some, and_self, and_true, true_and, reduceCtorEq, List.map_nil, List.map_cons, Option.some.injEq, AV.v.injEq, Value.int.injEq, Value.bool.injEq, AV.rd.injEq, AV.ow.injEq, AV.al.injEq, AV.ref.injEq] <;> omega), ⟨by dsimp only; omega, by dsimp only; omega, lim_set hs.2.2.1 (by omega) i, by simp [hs.2.2.2.1], by dsimp only; rw [drop_set_succ, h4], h3⟩, by dsimp only; omega⟩
  · have h1 := lim_get hs.2.2.1 (i := i)
    omega
  · have h1 := lim_get hs.2.2.1 (i := i)
    have h0 : b.getD i 0 = 0 := getD_out (by omega)
    have h2 := lim_get hp.2.1.1 (i := i)
    have h3 := sub_step hs.2.2.1 hp.2.1.1 hs.2.1 (by omega) hs.2.2.2.2.1 hs.2.2.2.1 hs.2.2.2.2.2
    have h4 := drop_succ_of hs.2.2.2.2.1
    rw [h0] at h3
    by_cases hlt : o.getD i 0 < 0 + (c : Int)
    · rw [if_pos hlt] at h3 ⊢
      refine ⟨(i + 1, 1, o.set i ((o.getD i 0 - 0 - (c : Int)) % 18446744073709551616)), by (refine ent_ok [(240, 240)] rfl ?_ ?_ <;> simp only [memLe, slotsLe, AvLe, lk, ↓reduceIte, Nat.reduceEqDiff, Option.isSome_some, and_self, and_true, true_and, reduceCtorEq, List.map_nil, List.map_cons, Option.some.injEq, AV.v.injEq, Value.int.injEq, Value.bool.injEq, AV.rd.injEq, AV.ow.injEq, AV.al.injEq, AV.ref.injEq] <;> omega), ⟨by dsimp only; omega, by dsimp only; omega, lim_set hs.2.2.1 (by omega) i, by simp [hs.2.2.2.1], by dsimp only; rw [drop_set_succ, h4], h3⟩, by dsimp only; omega⟩
    · rw [if_neg hlt] at h3 ⊢
      refine ⟨(i + 1, 0, o.set i ((o.getD i 0 - 0 - (c : Int)) % 18446744073709551616)), by (refine ent_ok [(240, 240)] rfl ?_ ?_ <;> simp only [memLe, slotsLe, AvLe, lk, ↓reduceIte, Nat.reduceEqDiff, Option.isSome_some, and_self, and_true, true_and, reduceCtorEq, List.map_nil, List.map_cons, Option.some.injEq, AV.v.injEq, Value.int.injEq, Value.bool.injEq, AV.rd.injEq, AV.ow.injEq, AV.al.injEq, AV.ref.injEq] <;> omega), ⟨by dsimp only; omega, by dsimp only; omega, lim_set hs.2.2.1 (by omega) i, by simp [hs.2.2.2.1], by dsimp only; rw [drop_set_succ, h4], h3⟩, by dsimp only; omega⟩
  all_goals (have hi : i = (limbs (val a)).length := by omega)
  all_goals (subst hi)
  all_goals (have hz := sz_le o)
  all_goals (try omega)
  all_goals (have h5 := hs.2.2.2.2.2)
  all_goals (rw [List.take_length, List.take_of_length_le (by omega)] at h5)
  all_goals (have h6 := sub_fin (lim_limbs _) hs.2.2.1 hp.2.1.1 hs.2.2.2.1 (by rw [val_limbs]; exact hp.2.2) h5)
  all_goals (rw [val_limbs] at h6)
  all_goals (rw [← h6, take_sz hs.2.2.1])
theorem sound_76 : Sound Try.prog 76 .body (norm s76) := by
  refine sound_norm (sound_body Try.func76 (show Try.f76.body = some (code Try.f76) from rfl) (by kernel_rfl) tysOk G76_ok (drawOk_ok (by kernel_rfl) tysOk G76_ok) (by kernel_rfl) fun ds p r hs hp => ?_)
  unfold s76 at hs
  split at hs
  · cases hs; exact ⟨Nat.le_of_ble_eq_true (by kernel_rfl), w76 _ _ hp⟩
  · cases hs
end Go.Proofs.AMT
set_option maxRecDepth 20000
namespace Go.Proofs.AMT
open Go.AM Go.AM.LN
attribute [local congr] bindO_congr bindS_congr bindG_congr awpOps_congr aOne_congr awp_congr aCond_congr awpD_congr dOne_congr keysB_congr nOne_congr thenP_congr blockP_congr Chk_congr Brk_congr
noncomputable def s77 : CSpec := fun ds => match ds with
  | [.v (.int .i64 d), .v (.bool s), .v (.bool o), .v (.int .i64 h)] => some (True, .one (.v (.bool (upS d s o h))))
  | _ => none
theorem s77_eq (d : Int) (s : Bool) (o : Bool) (h : Int) : norm s77 [.v (.int .i64 d), .v (.bool s), .v (.bool o), .v (.int .i64 h)] = some (True, .one (.v (.bool (upS d s o h)))) := rfl
noncomputable def G77 : Gam := []
theorem G77_ok : GamOk Try.prog G77 := gamOk_nil
set_option maxHeartbeats 20000000 in
theorem w77 (d : Int) (s : Bool) (o : Bool) (h : Int) (hp : True) : awp ty G77 (code Try.f77) (retP ty Try.f77.results.toList (.one (.v (.bool (upS d s o h))))) (entry 0 [.v (.int .i64 d), .v (.bool s), .v (.bool o), .v (.int .i64 h)]) [] := by
  unfold code
  simp only [Try.f77, Option.getD_some]
  all_goals repeat' (first
    | ((first
       | (with_reducible refine ops_k ?_; intro X hX)
       | (with_reducible refine opsN_k ?_; intro X hX)
       | (with_reducible show awp _ _ _ _ (keepL _ _) _)
       | with_reducible refine awp_cond_k ?_
       | (with_reducible refine Brk_i ?_ ?_ <;> intro hb <;> (try simp only [hb]) <;> have hq := hb <;> try simp only [decide_eq_true_eq, decide_eq_false_iff_not, gt_iff_lt, ge_iff_le, Int.not_lt, Int.not_le, beq_iff_eq, beq_eq_false_iff_ne, Bool.not_eq_true', Bool.not_eq_false', Bool.and_eq_true, Bool.or_eq_true, Bool.and_eq_false_imp, Bool.or_eq_false_iff, ne_eq, Classical.not_not] at hq)
       | with_reducible refine retP_ret_i ?_
       | with_reducible refine retP_normal_i ?_
       | (with_reducible (show bindG _ _ _ _ _); simp only [hall])) <;> try simp only [Go.AM.S1, Go.AM.S2, Go.AM.S3, Go.AM.S4, Go.AM.S5, Go.AM.S6, Go.AM.S7, Go.AM.S8, Go.AM.S9, Nat.reduceAdd, Nat.reduceMul, Nat.reduceSub, ↓reduceIte, Nat.reduceEqDiff, Nat.reduceLT, Nat.reduceLeDiff, reduceCtorEq, Int.reduceBEq, Int.reduceBNe, Nat.reduceBEq, Int.reduceEq, Int.reduceToNat, Int.reduceLE, Int.reduceLT, Nat.reduceDiv, Int.reduceAdd, Int.reduceSub, Int.reduceMul, Int.reduceNeg, Int.reduceGT, Int.reduceGE, Nat.reduceMod, ty_3, ty_4])
    | (with_reducible refine hX _ _ ?_; clear hX X)
    | (with_reducible refine ops_nil_i ?_; try clear hall all)
    | (with_reducible refine opsN_nil_i ?_; try clear hall all)
    | (with_reducible refine hK _ _ ?_; clear hK K)
    | with_reducible refine thenP_normal_i ?_
    | (with_reducible refine zzr10 _ _ ?_; try clear zzr10 Kzzr10)
    | (with_reducible refine zzsr1 _ _ ?_; try clear zzsr1 Kzzsr1)
    | (with_reducible refine zzr3 _ _ ?_; try clear zzr3 Kzzr3)
    | (with_reducible refine zzr5 _ _ ?_; try clear zzr5 Kzzr5)
    | (with_reducible refine zzr7 _ _ ?_; try clear zzr7 Kzzr7)
    | (with_reducible refine zzr9 _ _ ?_; try clear zzr9 Kzzr9)
    | (with_reducible refine zzr8 _ _ ?_; try clear zzr8 Kzzr8)
    | (with_reducible refine zzr6 _ _ ?_; try clear zzr6 Kzzr6)
    | (with_reducible refine zzr4 _ _ ?_; try clear zzr4 Kzzr4)
    | (with_reducible refine zzr2 _ _ ?_; try clear zzr2 Kzzr2)
    | (with_reducible refine zzr1 _ _ ?_; try clear zzr1 Kzzr1)
    | (with_reducible refine zzr0 _ _ ?_; try clear zzr0 Kzzr0)
    | (with_reducible refine awp_seq_l (a := .region 10 _ _) [8] ?_; intro Kzzr10 zzr10)
    | (with_reducible refine awp_seq_l (a := .seq (.region 1 _ _) _) [] ?_; intro Kzzsr1 zzsr1)
    | (with_reducible refine awp_seq_l (a := .region 3 _ _) [8] ?_; intro Kzzr3 zzr3)
    | (with_reducible refine awp_seq_l (a := .region 5 _ _) [8] ?_; intro Kzzr5 zzr5)
    | (with_reducible refine awp_seq_l (a := .region 7 _ _) [8] ?_; intro Kzzr7 zzr7)
    | (with_reducible refine awp_seq_l (a := .region 9 _ _) [8] ?_; intro Kzzr9 zzr9)
    | (with_reducible refine awp_seq_l (a := .region 8 _ _) [1, 29] ?_; intro Kzzr8 zzr8)
    | (with_reducible refine awp_seq_l (a := .region 6 _ _) [1, 9, 25] ?_; intro Kzzr6 zzr6)
    | (with_reducible refine awp_seq_l (a := .region 4 _ _) [1, 3, 9, 21] ?_; intro Kzzr4 zzr4)
    | (with_reducible refine awp_seq_l (a := .region 2 _ _) [1, 2, 3, 9, 10] ?_; intro Kzzr2 zzr2)
    | (with_reducible refine awp_seq_l (a := .region 1 _ _) [1, 2, 3, 9] ?_; intro Kzzr1 zzr1)
    | (with_reducible refine awp_seq_l (a := .region 0 _ _) [0, 1, 2, 3] ?_; intro Kzzr0 zzr0)
    | (with_reducible refine awp_seq_k ?_; intro K hK)
    | (with_reducible refine awp_region_a ?_; intro all hall K hK)
    | (with_reducible refine awp_draw_n ?_ ?_; kernel_rfl; intro all hall K hK)
    | (with_reducible refine Chk_i ?_ ?_)
    | (with_reducible refine keysC_i ?_; kernel_rfl)
    | (with_reducible first | refine awp_block_i ?_ | refine awp_skip_i ?_ | refine awp_ret_i ?_ | refine awp_exit_i ?_ | refine thenP_ret_i ?_ | refine thenP_exit_i ?_ | refine lpP_ret_i ?_ | refine lpP_exit_i ?_ | refine unrP_succ_i ?_ | refine unrP_ret_i ?_ | refine unrP_exit_i ?_ | refine blockP_normal_i ?_ | refine blockP_ret_i ?_)
    | (with_reducible refine blockP_exit_i ?_; simp only [↓reduceIte, Nat.reduceEqDiff])
    | with_reducible refine lpP_normal_i ?_)
  all_goals (try clear zzr0; try clear Kzzr0)
  all_goals (try clear zzr1; try clear Kzzr1)
  all_goals (try clear zzr2; try clear Kzzr2)
  all_goals (try clear zzr4; try clear Kzzr4)
  all_goals (try clear zzr6; try clear Kzzr6)
  all_goals (try clear zzr8; try clear Kzzr8)
  all_goals (try clear zzr9; try clear Kzzr9)
  all_goals (try clear zzr7; try clear Kzzr7)
  all_goals (try clear zzr5; try clear Kzzr5)
  all_goals (try clear zzr3; try clear Kzzr3)
  all_goals (try clear zzsr1; try clear Kzzsr1)
  all_goals (try clear zzr10; try clear Kzzr10)
  all_goals (unfold upS)
  all_goals (refine congrArg _ ?_; repeat' split)
  all_goals first
    | (exfalso; omega)
    | rfl
    | (have hh : h = 0 := by omega
       simp [hh])
    | (have hh : ¬ h = 0 := by omega
       have h2 : ¬ h > 0 := by omega
       simp [hh, h2])
    | (have h2 : h > 0 := by omega
       simp [h2])
theorem sound_77 : Sound Try.prog 77 .body (norm s77) := by
  refine sound_norm (sound_body Try.func77 (show Try.f77.body = some (code Try.f77) from rfl) (by kernel_rfl) tysOk G77_ok (drawOk_ok (by kernel_rfl) tysOk G77_ok) (by kernel_rfl) fun ds p r hs hp => ?_)
  unfold s77 at hs
  split at hs
  · cases hs; exact ⟨Nat.le_of_ble_eq_true (by kernel_rfl), w77 _ _ _ _ hp⟩
  · cases hs
end Go.Proofs.AMT
set_option maxRecDepth 20000
namespace Go.Proofs.AMT
open Go.AM Go.AM.LN
attribute [local congr] bindO_congr bindS_congr bindG_congr awpOps_congr aOne_congr awp_congr aCond_congr awpD_congr dOne_congr keysB_congr nOne_congr thenP_congr blockP_congr Chk_congr Brk_congr
noncomputable def s78 : CSpec := fun ds => match ds with
  | [.sl .u64 a, .sl .u64 b] => some ((lim a ∧ a.length ≤ 90000000) ∧ lim b ∧ b.length ≤ 90000000, .one (.fresh .u64 (limbs (val a + val b))))
  | _ => none
theorem s78_eq (a : List Int) (b : List Int) : norm s78 [.sl .u64 a, .sl .u64 b] = some ((lim a ∧ a.length ≤ 90000000) ∧ lim b ∧ b.length ≤ 90000000, .one (.fresh .u64 (limbs (val a + val b)))) := rfl
theorem s78_nil1  (b : List Int) : norm s78 [.v (.slice none 0 0), .sl .u64 b] = some ((lim ([] : List Int) ∧ ([] : List Int).length ≤ 90000000) ∧ lim b ∧ b.length ≤ 90000000, .one (.fresh .u64 (limbs (val ([] : List Int) + val b)))) := rfl
theorem s78_nil2 (a : List Int)  : norm s78 [.sl .u64 a, .v (.slice none 0 0)] = some ((lim a ∧ a.length ≤ 90000000) ∧ lim ([] : List Int) ∧ ([] : List Int).length ≤ 90000000, .one (.fresh .u64 (limbs (val a + val ([] : List Int))))) := rfl
theorem s78_nil3   : norm s78 [.v (.slice none 0 0), .v (.slice none 0 0)] = some ((lim ([] : List Int) ∧ ([] : List Int).length ≤ 90000000) ∧ lim ([] : List Int) ∧ ([] : List Int).length ≤ 90000000, .one (.fresh .u64 (limbs (val ([] : List Int) + val ([] : List Int))))) := rfl
noncomputable def G78 : Gam := [(71, .body, norm s71), (99, .ext, sAdd64)]
theorem G78_ok : GamOk Try.prog G78 := gamOk_cons sound_71 (gamOk_cons ext_99 gamOk_nil)
theorem k78_71 : lk G78 71 = some (.body, norm s71) := rfl
theorem k78_99 : lk G78 99 = some (.ext, sAdd64) := rfl
set_option maxHeartbeats 20000000 in
theorem w78 (a : List Int) (b : List Int) (hp : (lim a ∧ a.length ≤ 90000000) ∧ lim b ∧ b.length ≤ 90000000) : awp ty G78 (code Try.f78) (retP ty Try.f78.results.toList (.one (.fresh .u64 (limbs (val a + val b))))) (entry 0 [.sl .u64 a, .sl .u64 b]) [] := by
  unfold code
  simp only [Try.f78, Option.getD_some]
  have za := sz_le a
  have zb := sz_le b
  have ya := len_limbs_sz hp.1.1
  have yb := len_limbs_sz hp.2.1
  all_goals repeat' (first
    | ((first
       | (with_reducible refine ops_k ?_; intro X hX)
       | (with_reducible refine opsN_k ?_; intro X hX)
       | (with_reducible show awp _ _ _ _ (keepL _ _) _)
       | with_reducible refine awp_cond_k ?_
       | (with_reducible refine Brk_i ?_ ?_ <;> intro hb <;> (try simp only [hb]) <;> have hq := hb <;> try simp only [decide_eq_true_eq, decide_eq_false_iff_not, gt_iff_lt, ge_iff_le, Int.not_lt, Int.not_le, beq_iff_eq, beq_eq_false_iff_ne, Bool.not_eq_true', Bool.not_eq_false', Bool.and_eq_true, Bool.or_eq_true, Bool.and_eq_false_imp, Bool.or_eq_false_iff, ne_eq, Classical.not_not] at hq)
       | with_reducible refine retP_ret_i ?_
       | with_reducible refine retP_normal_i ?_
       | (with_reducible (show bindG _ _ _ _ _); simp only [hall])) <;> try simp only [Go.AM.S1, Go.AM.S2, Go.AM.S3, Go.AM.S4, Go.AM.S5, Go.AM.S6, Go.AM.S7, Go.AM.S8, Go.AM.S9, Nat.reduceAdd, Nat.reduceMul, Nat.reduceSub, ↓reduceIte, Nat.reduceEqDiff, Nat.reduceLT, Nat.reduceLeDiff, reduceCtorEq, Int.reduceBEq, Int.reduceBNe, Nat.reduceBEq, Int.reduceEq, Int.reduceToNat, Int.reduceLE, Int.reduceLT, Nat.reduceDiv, Int.reduceAdd, Int.reduceSub, Int.reduceMul, Int.reduceNeg, Int.reduceGT, Int.reduceGE, Nat.reduceMod, k78_71, s71_eq, s71_nil1, k78_99, sAdd64_eq, ty_3, ty_26, ty_42, take_sz hp.1.1, take_sz hp.2.1])
    | (with_reducible refine hX _ _ ?_; clear hX X)
    | (with_reducible refine ops_nil_i ?_; try clear hall all)
    | (with_reducible refine opsN_nil_i ?_; try clear hall all)
    | (with_reducible refine hK _ _ ?_; clear hK K)
    | with_reducible refine thenP_normal_i ?_
    | (with_reducible refine zzr15 _ _ ?_; try clear zzr15 Kzzr15)
    | (with_reducible refine zzr14 _ _ ?_; try clear zzr14 Kzzr14)
    | (with_reducible refine zzsr6 _ _ ?_; try clear zzsr6 Kzzsr6)
    | (with_reducible refine zzb1 _ _ ?_; try clear zzb1 Kzzb1)
    | (with_reducible refine zzsr10 _ _ ?_; try clear zzsr10 Kzzsr10)
    | (with_reducible refine zzr10 _ _ ?_; try clear zzr10 Kzzr10)
    | (with_reducible refine zzr9 _ _ ?_; try clear zzr9 Kzzr9)
    | (with_reducible refine zzr8 _ _ ?_; try clear zzr8 Kzzr8)
    | (with_reducible refine zzctmp32 _ _ ?_; try clear zzctmp32 Kzzctmp32)
    | (with_reducible refine zzr7 _ _ ?_; try clear zzr7 Kzzr7)
    | (with_reducible refine zzr6 _ _ ?_; try clear zzr6 Kzzr6)
    | (with_reducible refine zzr5 _ _ ?_; try clear zzr5 Kzzr5)
    | (with_reducible refine zzr4 _ _ ?_; try clear zzr4 Kzzr4)
    | (with_reducible refine zzsr2 _ _ ?_; try clear zzsr2 Kzzsr2)
    | (with_reducible refine zzr2 _ _ ?_; try clear zzr2 Kzzr2)
    | (with_reducible refine zzr1 _ _ ?_; try clear zzr1 Kzzr1)
    | (with_reducible refine zzr0 _ _ ?_; try clear zzr0 Kzzr0)
    | (with_reducible refine awp_seq_j (a := .seq (.region 2 _ _) _) (ι := {p : Nat × Nat // p.1 + p.2 = val a + val b ∧ (limbs p.2).length ≤ (limbs p.1).length ∧ (limbs p.1).length ≤ 90000000}) (fun j => [(0, .rd .u64 (limbs j.1.1)), (1, .rd .u64 (limbs j.1.2))]) (fun _ => []) (fun ⟨⟨x, y⟩, hj⟩ => ?_) ?_; rotate_left; intro Kj hj22)
    | (with_reducible refine awp_lp (σ := Nat × Nat × List Int) (fun s => s.1 ≤ (limbs x).length ∧ s.2.1 ≤ 1 ∧ lim s.2.2 ∧ s.2.2.length = (limbs x).length + 1 ∧ val (s.2.2.take s.1) + s.2.1 * 2 ^ (64 * s.1) = val ((limbs x).take s.1) + val ((limbs y).take s.1)) (fun s => [(0, .rd .u64 (limbs x)), (1, .rd .u64 (limbs y)), (5, .ow 448), (6, .v (.int .u64 s.2.1)), (29, .rd .u64 (limbs x)), (30, .v (.int .i64 (limbs x).length)), (31, .v (.int .i64 s.1))]) (fun s => [(448, .ints .u64 s.2.2, false)]) (fun s => (limbs x).length - s.1) (0, 0, List.replicate ((limbs x).length + 1) 0) ?_ ?_ (fun s hs => ?_))
    | (with_reducible refine awp_seq_l (a := .region 15 _ _) [4] ?_; intro Kzzr15 zzr15)
    | (with_reducible refine awp_seq_l (a := .region 14 _ _) [5] ?_; intro Kzzr14 zzr14)
    | (with_reducible refine awp_seq_l (a := .seq (.region 6 _ _) _) [0, 5, 6] ?_; intro Kzzsr6 zzsr6)
    | (with_reducible refine awp_seq_l (a := .block 1 _) [0, 1, 5, 6, 29, 30, 31] ?_; intro Kzzb1 zzb1)
    | (with_reducible refine awp_seq_l (a := .seq (.region 10 _ _) _) [0, 1, 5, 6, 7, 8, 9, 29, 30, 31] ?_; intro Kzzsr10 zzsr10)
    | (with_reducible refine awp_seq_l (a := .region 10 _ _) [0, 1, 5, 6, 7, 8, 9, 29, 30, 31, 39] ?_; intro Kzzr10 zzr10)
    | (with_reducible refine awp_seq_l (a := .region 9 _ _) [0, 1, 5, 6, 7, 8, 9, 29, 30, 31] ?_; intro Kzzr9 zzr9)
    | (with_reducible refine awp_seq_l (a := .region 8 _ _) [0, 1, 5, 6, 7, 8, 29, 30, 31] ?_; intro Kzzr8 zzr8)
    | (with_reducible refine awp_seq_l (a := .cond (.tmp 32) _ _) [0, 1, 5, 6, 29, 30, 31] ?_; intro Kzzctmp32 zzctmp32)
    | (with_reducible refine awp_seq_l (a := .region 7 _ _) [0, 1, 5, 6, 29, 30, 31, 32] ?_; intro Kzzr7 zzr7)
    | (with_reducible refine awp_seq_l (a := .region 6 _ _) [0, 1, 5, 6, 29, 30, 31] ?_; intro Kzzr6 zzr6)
    | (with_reducible refine awp_seq_l (a := .region 5 _ _) [0, 1, 5, 6] ?_; intro Kzzr5 zzr5)
    | (with_reducible refine awp_seq_l (a := .region 4 _ _) [0, 1, 5] ?_; intro Kzzr4 zzr4)
    | (with_reducible refine awp_seq_l (a := .seq (.region 2 _ _) _) [0, 1] ?_; intro Kzzsr2 zzsr2)
    | (with_reducible refine awp_seq_l (a := .region 2 _ _) [0, 1, 22] ?_; intro Kzzr2 zzr2)
    | (with_reducible refine awp_seq_l (a := .region 1 _ _) [0, 1] ?_; intro Kzzr1 zzr1)
    | (with_reducible refine awp_seq_l (a := .region 0 _ _) [0, 1] ?_; intro Kzzr0 zzr0)
    | (with_reducible refine awp_seq_k ?_; intro K hK)
    | (with_reducible refine awp_region_a ?_; intro all hall K hK)
    | (with_reducible refine awp_draw_n ?_ ?_; kernel_rfl; intro all hall K hK)
    | (with_reducible refine Chk_i ?_ ?_)
    | (with_reducible refine keysC_i ?_; kernel_rfl)
    | (with_reducible first | refine awp_block_i ?_ | refine awp_skip_i ?_ | refine awp_ret_i ?_ | refine awp_exit_i ?_ | refine thenP_ret_i ?_ | refine thenP_exit_i ?_ | refine lpP_ret_i ?_ | refine lpP_exit_i ?_ | refine unrP_succ_i ?_ | refine unrP_ret_i ?_ | refine unrP_exit_i ?_ | refine blockP_normal_i ?_ | refine blockP_ret_i ?_)
    | (with_reducible refine blockP_exit_i ?_; simp only [↓reduceIte, Nat.reduceEqDiff])
    | with_reducible refine lpP_normal_i ?_)
  all_goals (try clear zzr0; try clear Kzzr0)
  all_goals (try clear zzr1; try clear Kzzr1)
  all_goals (try clear zzr2; try clear Kzzr2)
  all_goals (try clear zzsr2; try clear Kzzsr2)
  all_goals (try clear zzr4; try clear Kzzr4)
  all_goals (try clear zzr5; try clear Kzzr5)
  all_goals (try clear zzr6; try clear Kzzr6)
  all_goals (try clear zzr7; try clear Kzzr7)
  all_goals (try clear zzctmp32; try clear Kzzctmp32)
  all_goals (try clear zzr8; try clear Kzzr8)
  all_goals (try clear zzr9; try clear Kzzr9)
  all_goals (try clear zzr10; try clear Kzzr10)
  all_goals (try clear zzsr10; try clear Kzzsr10)
  all_goals (try clear zzb1; try clear Kzzb1)
  all_goals (try clear zzsr6; try clear Kzzsr6)
  all_goals (try clear zzr14; try clear Kzzr14)
  all_goals (try clear zzr15; try clear Kzzr15)
  all_goals (try (rcases s with ⟨i, c, o⟩))
  all_goals (try dsimp only at *)
  all_goals (try simp only [inR])
  all_goals (try omega)
  · exact hj22 _ _ ⟨(val b, val a), by dsimp only; omega, by dsimp only; omega, by dsimp only; omega⟩ (by (refine ent_ok [] rfl ?_ ?_ <;> simp only [memLe, slotsLe, AvLe, lk, ↓reduceIte, Nat.reduceEqDiff, Option.isSome_some, and_self, and_true, true_and, reduceCtorEq, List.map_nil, List.map_cons, Option.some.injEq, AV.v.injEq, Value.int.injEq, Value.bool.injEq, AV.rd.injEq, AV.ow.injEq, AV.al.injEq, AV.ref.injEq] <;> omega))
  · exact hj22 _ _ ⟨(val a, val b), rfl, by dsimp only; omega, by dsimp only; omega⟩ (by (refine ent_ok [] rfl ?_ ?_ <;> simp only [memLe, slotsLe, AvLe, lk, ↓reduceIte, Nat.reduceEqDiff, Option.isSome_some, and_self, and_true, true_and, reduceCtorEq, List.map_nil, List.map_cons, Option.some.injEq, AV.v.injEq, Value.int.injEq, Value.bool.injEq, AV.rd.injEq, AV.ow.injEq, AV.al.injEq, AV.ref.injEq] <;> omega))
  · exact ⟨Nat.zero_le _, by omega, lim_rep _, by simp, by simp [val]⟩
  · have e : (((limbs x).length : Int) + 1).toNat = (limbs x).length + 1 := by omega
    rw [e]; exact Ent.refl _ _
  · have h1 := lim_get (lim_limbs x) (i := i)
    have h2 := lim_get (lim_limbs y) (i := i)
    omega
  · have h1 := lim_get (lim_limbs x) (i := i)
    have h2 := lim_get (lim_limbs y) (i := i)
    refine ⟨(i + 1, (((limbs x).getD i 0 + (limbs y).getD i 0 + (c : Int)) / 18446744073709551616).toNat, o.set i (((limbs x).getD i 0 + (limbs y).getD i 0 + (c : Int)) % 18446744073709551616)), by (refine ent_ok [(448, 448)] rfl ?_ ?_ <;> simp only [memLe, slotsLe, AvLe, lk, ↓reduceIte, Nat.reduceEqDiff, Option.isSome_some, and_self, and_true, true_and, reduceCtorEq, List.map_nil, List.map_cons, Option.some.injEq, AV.v.injEq, Value.int.injEq, Value.bool.injEq, AV.rd.injEq, AV.ow.injEq, AV.al.injEq, AV.ref.injEq] <;> omega), ⟨by dsimp only; omega, by dsimp only; omega, lim_set hs.2.2.1 (by omega) i, by simp [hs.2.2.2.1], add_step (lim_limbs x) (lim_limbs y) (by omega) hs.2.2.2.2⟩, by dsimp only; omega⟩
  · have h1 := lim_get (lim_limbs x) (i := i)
    omega
  · have h1 := lim_get (lim_limbs x) (i := i)
    have h2 : (limbs y).getD i 0 = 0 := getD_out (by omega)
    have h4 : (limbs x).getD i 0 + 0 + (c : Int) = (limbs x).getD i 0 + (limbs y).getD i 0 + (c : Int) := by rw [h2]
    rw [h4]
    have h3 := lim_get (lim_limbs y) (i := i)
    refine ⟨(i + 1, (((limbs x).getD i 0 + (limbs y).getD i 0 + (c : Int)) / 18446744073709551616).toNat, o.set i (((limbs x).getD i 0 + (limbs y).getD i 0 + (c : Int)) % 18446744073709551616)), by (refine ent_ok [(448, 448)] rfl ?_ ?_ <;> simp only [memLe, slotsLe, AvLe, lk, ↓reduceIte, Nat.reduceEqDiff, Option.isSome_some, and_self, and_true, true_and, reduceCtorEq, List.map_nil, List.map_cons, Option.some.injEq, AV.v.injEq, Value.int.injEq, Value.bool.injEq, AV.rd.injEq, AV.ow.injEq, AV.al.injEq, AV.ref.injEq] <;> omega), ⟨by dsimp only; omega, by dsimp only; omega, lim_set hs.2.2.1 (by omega) i, by simp [hs.2.2.2.1], add_step (lim_limbs x) (lim_limbs y) (by omega) hs.2.2.2.2⟩, by dsimp only; omega⟩
  all_goals (have hi : i = (limbs x).length := by omega)
  all_goals (subst hi)
  all_goals (have hz := sz_le (o.set (limbs x).length (c : Int)))
  all_goals (have hlen : (o.set (limbs x).length (c : Int)).length = (limbs x).length + 1 := by simp [hs.2.2.2.1])
  all_goals (try omega)
  all_goals (have h5 := hs.2.2.2.2)
  all_goals (rw [List.take_length, val_limbs, List.take_of_length_le hj.2.1, val_limbs] at h5)
  all_goals (have hv : val (o.set (limbs x).length (c : Int)) = val a + val b := by rw [val_set_last hs.2.2.2.1, ← hj.1, Int.toNat_natCast, Nat.mul_comm]; exact h5)
  all_goals (try omega)
  all_goals (rw [← hv, ← take_sz (lim_set hs.2.2.1 (by omega) _)])
theorem sound_78 : Sound Try.prog 78 .body (norm s78) := by
  refine sound_norm (sound_body Try.func78 (show Try.f78.body = some (code Try.f78) from rfl) (by kernel_rfl) tysOk G78_ok (drawOk_ok (by kernel_rfl) tysOk G78_ok) (by kernel_rfl) fun ds p r hs hp => ?_)
  unfold s78 at hs
  split at hs
  · cases hs; exact ⟨Nat.le_of_ble_eq_true (by kernel_rfl), w78 _ _ hp⟩
  · cases hs
end Go.Proofs.AMT
set_option maxRecDepth 20000
namespace Go.Proofs.AMT
open Go.AM Go.AM.LN
attribute [local congr] bindO_congr bindS_congr bindG_congr awpOps_congr aOne_congr awp_congr aCond_congr awpD_congr dOne_congr keysB_congr nOne_congr thenP_congr blockP_congr Chk_congr Brk_congr
noncomputable def s48 : CSpec := fun ds => match ds with
  | [.v (.int .i64 d), .v (.bool s), .sl .u64 a, .sl .u64 b] => some ((lim a ∧ a.length ≤ 70000000) ∧ (lim b ∧ b.length ≤ 70000000) ∧ val b ≠ 0 ∧ sz a ≤ 2000 ∧ sz b ≤ 2000, .many [.fresh .u64 (limbs (divS d s (val a) (val b)).1), .v (.bool (divS d s (val a) (val b)).2)])
  | _ => none
theorem s48_eq (d : Int) (s : Bool) (a : List Int) (b : List Int) : norm s48 [.v (.int .i64 d), .v (.bool s), .sl .u64 a, .sl .u64 b] = some ((lim a ∧ a.length ≤ 70000000) ∧ (lim b ∧ b.length ≤ 70000000) ∧ val b ≠ 0 ∧ sz a ≤ 2000 ∧ sz b ≤ 2000, .many [.fresh .u64 (limbs (divS d s (val a) (val b)).1), .v (.bool (divS d s (val a) (val b)).2)]) := rfl
theorem s48_nil1 (d : Int) (s : Bool)  (b : List Int) : norm s48 [.v (.int .i64 d), .v (.bool s), .v (.slice none 0 0), .sl .u64 b] = some ((lim ([] : List Int) ∧ ([] : List Int).length ≤ 70000000) ∧ (lim b ∧ b.length ≤ 70000000) ∧ val b ≠ 0 ∧ sz ([] : List Int) ≤ 2000 ∧ sz b ≤ 2000, .many [.fresh .u64 (limbs (divS d s (val ([] : List Int)) (val b)).1), .v (.bool (divS d s (val ([] : List Int)) (val b)).2)]) := rfl
theorem s48_nil2 (d : Int) (s : Bool) (a : List Int)  : norm s48 [.v (.int .i64 d), .v (.bool s), .sl .u64 a, .v (.slice none 0 0)] = some ((lim a ∧ a.length ≤ 70000000) ∧ (lim ([] : List Int) ∧ ([] : List Int).length ≤ 70000000) ∧ val ([] : List Int) ≠ 0 ∧ sz a ≤ 2000 ∧ sz ([] : List Int) ≤ 2000, .many [.fresh .u64 (limbs (divS d s (val a) (val ([] : List Int))).1), .v (.bool (divS d s (val a) (val ([] : List Int))).2)]) := rfl
theorem s48_nil3 (d : Int) (s : Bool)   : norm s48 [.v (.int .i64 d), .v (.bool s), .v (.slice none 0 0), .v (.slice none 0 0)] = some ((lim ([] : List Int) ∧ ([] : List Int).length ≤ 70000000) ∧ (lim ([] : List Int) ∧ ([] : List Int).length ≤ 70000000) ∧ val ([] : List Int) ≠ 0 ∧ sz ([] : List Int) ≤ 2000 ∧ sz ([] : List Int) ≤ 2000, .many [.fresh .u64 (limbs (divS d s (val ([] : List Int)) (val ([] : List Int))).1), .v (.bool (divS d s (val ([] : List Int)) (val ([] : List Int))).2)]) := rfl
noncomputable def G48 : Gam := [(28, .body, norm s28), (46, .body, norm s46), (75, .body, norm s75), (76, .body, norm s76), (77, .body, norm s77), (78, .body, norm s78)]
theorem G48_ok : GamOk Try.prog G48 := gamOk_cons sound_28 (gamOk_cons sound_46 (gamOk_cons sound_75 (gamOk_cons sound_76 (gamOk_cons sound_77 (gamOk_cons sound_78 gamOk_nil)))))
theorem k48_28 : lk G48 28 = some (.body, norm s28) := rfl
theorem k48_46 : lk G48 46 = some (.body, norm s46) := rfl
theorem k48_75 : lk G48 75 = some (.body, norm s75) := rfl
theorem k48_76 : lk G48 76 = some (.body, norm s76) := rfl
theorem k48_77 : lk G48 77 = some (.body, norm s77) := rfl
theorem k48_78 : lk G48 78 = some (.body, norm s78) := rfl
set_option maxHeartbeats 20000000 in
theorem w48 (d : Int) (s : Bool) (a : List Int) (b : List Int) (hp : (lim a ∧ a.length ≤ 70000000) ∧ (lim b ∧ b.length ≤ 70000000) ∧ val b ≠ 0 ∧ sz a ≤ 2000 ∧ sz b ≤ 2000) : awp ty G48 (code Try.f48) (retP ty Try.f48.results.toList (.many [.fresh .u64 (limbs (divS d s (val a) (val b)).1), .v (.bool (divS d s (val a) (val b)).2)])) (entry 0 [.v (.int .i64 d), .v (.bool s), .sl .u64 a, .sl .u64 b]) [] := by
  unfold code
  simp only [Try.f48, Option.getD_some]
  have za := sz_le a
  have zb := sz_le b
  have hr := Nat.mod_lt (val a) (show 0 < val b by omega)
  have hq1 := Nat.div_le_self (val a) (val b)
  have l1 := len_mono hq1
  have l2 := len_mono (Nat.le_of_lt hr)
  have l3 := len_mono (Nat.sub_le (val b) (val a % val b))
  have ya := len_limbs_sz hp.1.1
  have yb := len_limbs_sz hp.2.1.1
  have z1 := @len_zero (val a % val b)
  have z2 := @len_zero (val a / val b)
  have l4 : (limbs 1).length = 1 := rfl
  have l5 : val (limbs 1) = 1 := rfl
  all_goals repeat' (first
    | ((first
       | (with_reducible refine ops_k ?_; intro X hX)
       | (with_reducible refine opsN_k ?_; intro X hX)
       | (with_reducible show awp _ _ _ _ (keepL _ _) _)
       | with_reducible refine awp_cond_k ?_
       | (with_reducible refine Brk_i ?_ ?_ <;> intro hb <;> (try simp only [hb]) <;> have hq := hb <;> try simp only [decide_eq_true_eq, decide_eq_false_iff_not, gt_iff_lt, ge_iff_le, Int.not_lt, Int.not_le, beq_iff_eq, beq_eq_false_iff_ne, Bool.not_eq_true', Bool.not_eq_false', Bool.and_eq_true, Bool.or_eq_true, Bool.and_eq_false_imp, Bool.or_eq_false_iff, ne_eq, Classical.not_not] at hq)
       | with_reducible refine retP_ret_i ?_
       | with_reducible refine retP_normal_i ?_
       | (with_reducible (show bindG _ _ _ _ _); simp only [hall])) <;> try simp only [Go.AM.S1, Go.AM.S2, Go.AM.S3, Go.AM.S4, Go.AM.S5, Go.AM.S6, Go.AM.S7, Go.AM.S8, Go.AM.S9, Nat.reduceAdd, Nat.reduceMul, Nat.reduceSub, ↓reduceIte, Nat.reduceEqDiff, Nat.reduceLT, Nat.reduceLeDiff, reduceCtorEq, Int.reduceBEq, Int.reduceBNe, Nat.reduceBEq, Int.reduceEq, Int.reduceToNat, Int.reduceLE, Int.reduceLT, Nat.reduceDiv, Int.reduceAdd, Int.reduceSub, Int.reduceMul, Int.reduceNeg, Int.reduceGT, Int.reduceGE, Nat.reduceMod, k48_28, s28_eq, k48_46, s46_eq, s46_nil1, s46_nil2, s46_nil3, k48_75, s75_eq, s75_nil1, s75_nil2, s75_nil3, k48_76, s76_eq, s76_nil1, s76_nil2, s76_nil3, k48_77, s77_eq, k48_78, s78_eq, s78_nil1, s78_nil2, s78_nil3, ty_3, ty_4, ty_26, ty_42, val_limbs, odd_eq, Int.toNat_one])
    | (with_reducible refine hX _ _ ?_; clear hX X)
    | (with_reducible refine ops_nil_i ?_; try clear hall all)
    | (with_reducible refine opsN_nil_i ?_; try clear hall all)
    | (with_reducible refine hK _ _ ?_; clear hK K)
    | with_reducible refine thenP_normal_i ?_
    | (with_reducible refine zzr7 _ _ ?_; try clear zzr7 Kzzr7)
    | (with_reducible refine zzsr5 _ _ ?_; try clear zzsr5 Kzzsr5)
    | (with_reducible refine zzr5 _ _ ?_; try clear zzr5 Kzzr5)
    | (with_reducible refine zzr4 _ _ ?_; try clear zzr4 Kzzr4)
    | (with_reducible refine zzsr2 _ _ ?_; try clear zzsr2 Kzzsr2)
    | (with_reducible refine zzr3 _ _ ?_; try clear zzr3 Kzzr3)
    | (with_reducible refine zzr2 _ _ ?_; try clear zzr2 Kzzr2)
    | (with_reducible refine zzr1 _ _ ?_; try clear zzr1 Kzzr1)
    | (with_reducible refine zzr0 _ _ ?_; try clear zzr0 Kzzr0)
    | (with_reducible refine awp_seq_l (a := .region 7 _ _) [8, 9] ?_; intro Kzzr7 zzr7)
    | (with_reducible refine awp_seq_l (a := .seq (.region 5 _ _) _) [10] ?_; intro Kzzsr5 zzsr5)
    | (with_reducible refine awp_seq_l (a := .region 5 _ _) [10, 47] ?_; intro Kzzr5 zzr5)
    | (with_reducible refine awp_seq_l (a := .region 4 _ _) [0, 1, 10, 11, 13] ?_; intro Kzzr4 zzr4)
    | (with_reducible refine awp_seq_l (a := .seq (.region 2 _ _) _) [0, 1, 3, 10, 11] ?_; intro Kzzsr2 zzsr2)
    | (with_reducible refine awp_seq_l (a := .region 3 _ _) [8, 9] ?_; intro Kzzr3 zzr3)
    | (with_reducible refine awp_seq_l (a := .region 2 _ _) [0, 1, 3, 10, 11, 24] ?_; intro Kzzr2 zzr2)
    | (with_reducible refine awp_seq_l (a := .region 1 _ _) [0, 1, 3, 10, 11] ?_; intro Kzzr1 zzr1)
    | (with_reducible refine awp_seq_l (a := .region 0 _ _) [0, 1, 2, 3] ?_; intro Kzzr0 zzr0)
    | (with_reducible refine awp_seq_k ?_; intro K hK)
    | (with_reducible refine awp_region_a ?_; intro all hall K hK)
    | (with_reducible refine awp_draw_n ?_ ?_; kernel_rfl; intro all hall K hK)
    | (with_reducible refine Chk_i ?_ ?_)
    | (with_reducible refine keysC_i ?_; kernel_rfl)
    | (with_reducible first | refine awp_block_i ?_ | refine awp_skip_i ?_ | refine awp_ret_i ?_ | refine awp_exit_i ?_ | refine thenP_ret_i ?_ | refine thenP_exit_i ?_ | refine lpP_ret_i ?_ | refine lpP_exit_i ?_ | refine unrP_succ_i ?_ | refine unrP_ret_i ?_ | refine unrP_exit_i ?_ | refine blockP_normal_i ?_ | refine blockP_ret_i ?_)
    | (with_reducible refine blockP_exit_i ?_; simp only [↓reduceIte, Nat.reduceEqDiff])
    | with_reducible refine lpP_normal_i ?_)
  all_goals (try clear zzr0; try clear Kzzr0)
  all_goals (try clear zzr1; try clear Kzzr1)
  all_goals (try clear zzr2; try clear Kzzr2)
  all_goals (try clear zzr3; try clear Kzzr3)
  all_goals (try clear zzsr2; try clear Kzzsr2)
  all_goals (try clear zzr4; try clear Kzzr4)
  all_goals (try clear zzr5; try clear Kzzr5)
  all_goals (try clear zzsr5; try clear Kzzsr5)
  all_goals (try clear zzr7; try clear Kzzr7)
  all_goals (try simp only [inR])
  all_goals first
    | omega
    | exact ⟨⟨hp.2.1.1, by omega⟩, ⟨lim_limbs _, by omega⟩, by omega⟩
    | exact ⟨⟨lim_limbs _, by omega⟩, lim_limbs _, by omega⟩
    | (rw [divS_ex (by omega)]; all_goals (first | rfl | exact ⟨rfl, rfl⟩ | exact ⟨⟨rfl, rfl⟩, rfl⟩))
    | (rw [divS_up (by omega) (by assumption)]; all_goals (first | rfl | exact ⟨rfl, rfl⟩ | exact ⟨⟨rfl, rfl⟩, rfl⟩))
    | (rw [divS_dn (by omega) (by assumption)]; all_goals (first | rfl | exact ⟨rfl, rfl⟩ | exact ⟨⟨rfl, rfl⟩, rfl⟩))
    | (rw [divS_up (by omega) (by rw [odd0 (by omega)]; assumption)]; all_goals (first | rfl | exact ⟨rfl, rfl⟩ | exact ⟨⟨rfl, rfl⟩, rfl⟩))
    | (rw [divS_dn (by omega) (by rw [odd0 (by omega)]; assumption)]; all_goals (first | rfl | exact ⟨rfl, rfl⟩ | exact ⟨⟨rfl, rfl⟩, rfl⟩))
theorem sound_48 : Sound Try.prog 48 .body (norm s48) := by
  refine sound_norm (sound_body Try.func48 (show Try.f48.body = some (code Try.f48) from rfl) (by kernel_rfl) tysOk G48_ok (drawOk_ok (by kernel_rfl) tysOk G48_ok) (by kernel_rfl) fun ds p r hs hp => ?_)
  unfold s48 at hs
  split at hs
  · cases hs; exact ⟨Nat.le_of_ble_eq_true (by kernel_rfl), w48 _ _ _ _ hp⟩
  · cases hs
end Go.Proofs.AMT
set_option maxRecDepth 20000
namespace Go.Proofs.AMT
open Go.AM Go.AM.LN
attribute [local congr] bindO_congr bindS_congr bindG_congr awpOps_congr aOne_congr awp_congr aCond_congr awpD_congr dOne_congr keysB_congr nOne_congr thenP_congr blockP_congr Chk_congr Brk_congr
noncomputable def s50 : CSpec := fun ds => match ds with
  | [.sl .u64 a] => some (lim a ∧ a.length ≤ 4, .one (.v (.agg #[.int .u64 (a.getD 0 0), .int .u64 (a.getD 1 0), .int .u64 (a.getD 2 0), .int .u64 (a.getD 3 0)])))
  | _ => none
theorem s50_eq (a : List Int) : norm s50 [.sl .u64 a] = some (lim a ∧ a.length ≤ 4, .one (.v (.agg #[.int .u64 (a.getD 0 0), .int .u64 (a.getD 1 0), .int .u64 (a.getD 2 0), .int .u64 (a.getD 3 0)]))) := rfl
theorem s50_nil1  : norm s50 [.v (.slice none 0 0)] = some (lim ([] : List Int) ∧ ([] : List Int).length ≤ 4, .one (.v (.agg #[.int .u64 (([] : List Int).getD 0 0), .int .u64 (([] : List Int).getD 1 0), .int .u64 (([] : List Int).getD 2 0), .int .u64 (([] : List Int).getD 3 0)]))) := rfl
noncomputable def G50 : Gam := []
theorem G50_ok : GamOk Try.prog G50 := gamOk_nil
set_option maxHeartbeats 20000000 in
theorem w50 (a : List Int) (hp : lim a ∧ a.length ≤ 4) : awp ty G50 (code Try.f50) (retP ty Try.f50.results.toList (.one (.v (.agg #[.int .u64 (a.getD 0 0), .int .u64 (a.getD 1 0), .int .u64 (a.getD 2 0), .int .u64 (a.getD 3 0)])))) (entry 0 [.sl .u64 a]) [] := by
  unfold code
  simp only [Try.f50, Option.getD_some]
  all_goals repeat' (first
    | ((first
       | (with_reducible refine ops_k ?_; intro X hX)
       | (with_reducible refine opsN_k ?_; intro X hX)
       | (with_reducible show awp _ _ _ _ (keepL _ _) _)
       | with_reducible refine awp_cond_k ?_
       | (with_reducible refine Brk_i ?_ ?_ <;> intro hb <;> (try simp only [hb]) <;> have hq := hb <;> try simp only [decide_eq_true_eq, decide_eq_false_iff_not, gt_iff_lt, ge_iff_le, Int.not_lt, Int.not_le, beq_iff_eq, beq_eq_false_iff_ne, Bool.not_eq_true', Bool.not_eq_false', Bool.and_eq_true, Bool.or_eq_true, Bool.and_eq_false_imp, Bool.or_eq_false_iff, ne_eq, Classical.not_not] at hq)
       | with_reducible refine retP_ret_i ?_
       | with_reducible refine retP_normal_i ?_
       | (with_reducible (show bindG _ _ _ _ _); simp only [hall])) <;> try simp only [Go.AM.S1, Go.AM.S2, Go.AM.S3, Go.AM.S4, Go.AM.S5, Go.AM.S6, Go.AM.S7, Go.AM.S8, Go.AM.S9, Nat.reduceAdd, Nat.reduceMul, Nat.reduceSub, ↓reduceIte, Nat.reduceEqDiff, Nat.reduceLT, Nat.reduceLeDiff, reduceCtorEq, Int.reduceBEq, Int.reduceBNe, Nat.reduceBEq, Int.reduceEq, Int.reduceToNat, Int.reduceLE, Int.reduceLT, Nat.reduceDiv, Int.reduceAdd, Int.reduceSub, Int.reduceMul, Int.reduceNeg, Int.reduceGT, Int.reduceGE, Nat.reduceMod, ty_26, ty_28, ty_42, aOne_copy, bindP_some, spCopy, spAppend, intSl, yInts, layAt, bits_list hp.2])
    | (with_reducible refine hX _ _ ?_; clear hX X)
    | (with_reducible refine ops_nil_i ?_; try clear hall all)
    | (with_reducible refine opsN_nil_i ?_; try clear hall all)
    | (with_reducible refine hK _ _ ?_; clear hK K)
    | with_reducible refine thenP_normal_i ?_
    | (with_reducible refine zzr2 _ _ ?_; try clear zzr2 Kzzr2)
    | (with_reducible refine zzr1 _ _ ?_; try clear zzr1 Kzzr1)
    | (with_reducible refine zzr0 _ _ ?_; try clear zzr0 Kzzr0)
    | (with_reducible refine awp_seq_l (a := .region 2 _ _) [2] ?_; intro Kzzr2 zzr2)
    | (with_reducible refine awp_seq_l (a := .region 1 _ _) [2] ?_; intro Kzzr1 zzr1)
    | (with_reducible refine awp_seq_l (a := .region 0 _ _) [0, 2] ?_; intro Kzzr0 zzr0)
    | (with_reducible refine awp_seq_k ?_; intro K hK)
    | (with_reducible refine awp_region_a ?_; intro all hall K hK)
    | (with_reducible refine awp_draw_n ?_ ?_; kernel_rfl; intro all hall K hK)
    | (with_reducible refine Chk_i ?_ ?_)
    | (with_reducible refine keysC_i ?_; kernel_rfl)
    | (with_reducible first | refine awp_block_i ?_ | refine awp_skip_i ?_ | refine awp_ret_i ?_ | refine awp_exit_i ?_ | refine thenP_ret_i ?_ | refine thenP_exit_i ?_ | refine lpP_ret_i ?_ | refine lpP_exit_i ?_ | refine unrP_succ_i ?_ | refine unrP_ret_i ?_ | refine unrP_exit_i ?_ | refine blockP_normal_i ?_ | refine blockP_ret_i ?_)
    | (with_reducible refine blockP_exit_i ?_; simp only [↓reduceIte, Nat.reduceEqDiff])
    | with_reducible refine lpP_normal_i ?_)
  all_goals (try clear zzr0; try clear Kzzr0)
  all_goals (try clear zzr1; try clear Kzzr1)
  all_goals (try clear zzr2; try clear Kzzr2)
  all_goals (try simp only [inR])
  all_goals first
    | omega
    | decide
theorem sound_50 : Sound Try.prog 50 .body (norm s50) := by
  refine sound_norm (sound_body Try.func50 (show Try.f50.body = some (code Try.f50) from rfl) (by kernel_rfl) tysOk G50_ok (drawOk_ok (by kernel_rfl) tysOk G50_ok) (by kernel_rfl) fun ds p r hs hp => ?_)
  unfold s50 at hs
  split at hs
  · cases hs; exact ⟨Nat.le_of_ble_eq_true (by kernel_rfl), w50 _ hp⟩
  · cases hs
end Go.Proofs.AMT
set_option maxRecDepth 20000
namespace Go.Proofs.AMT
open Go.AM Go.AM.LN
attribute [local congr] bindO_congr bindS_congr bindG_congr awpOps_congr aOne_congr awp_congr aCond_congr awpD_congr dOne_congr keysB_congr nOne_congr thenP_congr blockP_congr Chk_congr Brk_congr
noncomputable def s27 : CSpec := fun ds => match ds with
  | [.v (.int .i64 n), .v (.int .i64 d), .v (.bool s), .sl .u64 a, .sl .u64 b, .v (.int .i64 e)] => some ((lim a ∧ a.length ≤ 60000000) ∧ (lim b ∧ b.length ≤ 60000000) ∧ val b ≠ 0 ∧ sz a ≤ 800 ∧ sz b ≤ 800, .many [.v (.agg #[.int .u64 (w4 (roundV n d s (val a) (val b) e) 0), .int .u64 (w4 (roundV n d s (val a) (val b) e) 1), .int .u64 (w4 (roundV n d s (val a) (val b) e) 2), .int .u64 (w4 (roundV n d s (val a) (val b) e) 3)]), .v (.int .i64 (roundF n d s (val a) (val b) e)), .v (.int .i64 (roundE n d))])
  | _ => none
theorem s27_eq (n : Int) (d : Int) (s : Bool) (a : List Int) (b : List Int) (e : Int) : norm s27 [.v (.int .i64 n), .v (.int .i64 d), .v (.bool s), .sl .u64 a, .sl .u64 b, .v (.int .i64 e)] = some ((lim a ∧ a.length ≤ 60000000) ∧ (lim b ∧ b.length ≤ 60000000) ∧ val b ≠ 0 ∧ sz a ≤ 800 ∧ sz b ≤ 800, .many [.v (.agg #[.int .u64 (w4 (roundV n d s (val a) (val b) e) 0), .int .u64 (w4 (roundV n d s (val a) (val b) e) 1), .int .u64 (w4 (roundV n d s (val a) (val b) e) 2), .int .u64 (w4 (roundV n d s (val a) (val b) e) 3)]), .v (.int .i64 (roundF n d s (val a) (val b) e)), .v (.int .i64 (roundE n d))]) := rfl
theorem s27_nil1 (n : Int) (d : Int) (s : Bool)  (b : List Int) (e : Int) : norm s27 [.v (.int .i64 n), .v (.int .i64 d), .v (.bool s), .v (.slice none 0 0), .sl .u64 b, .v (.int .i64 e)] = some ((lim ([] : List Int) ∧ ([] : List Int).length ≤ 60000000) ∧ (lim b ∧ b.length ≤ 60000000) ∧ val b ≠ 0 ∧ sz ([] : List Int) ≤ 800 ∧ sz b ≤ 800, .many [.v (.agg #[.int .u64 (w4 (roundV n d s (val ([] : List Int)) (val b) e) 0), .int .u64 (w4 (roundV n d s (val ([] : List Int)) (val b) e) 1), .int .u64 (w4 (roundV n d s (val ([] : List Int)) (val b) e) 2), .int .u64 (w4 (roundV n d s (val ([] : List Int)) (val b) e) 3)]), .v (.int .i64 (roundF n d s (val ([] : List Int)) (val b) e)), .v (.int .i64 (roundE n d))]) := rfl
theorem s27_nil2 (n : Int) (d : Int) (s : Bool) (a : List Int)  (e : Int) : norm s27 [.v (.int .i64 n), .v (.int .i64 d), .v (.bool s), .sl .u64 a, .v (.slice none 0 0), .v (.int .i64 e)] = some ((lim a ∧ a.length ≤ 60000000) ∧ (lim ([] : List Int) ∧ ([] : List Int).length ≤ 60000000) ∧ val ([] : List Int) ≠ 0 ∧ sz a ≤ 800 ∧ sz ([] : List Int) ≤ 800, .many [.v (.agg #[.int .u64 (w4 (roundV n d s (val a) (val ([] : List Int)) e) 0), .int .u64 (w4 (roundV n d s (val a) (val ([] : List Int)) e) 1), .int .u64 (w4 (roundV n d s (val a) (val ([] : List Int)) e) 2), .int .u64 (w4 (roundV n d s (val a) (val ([] : List Int)) e) 3)]), .v (.int .i64 (roundF n d s (val a) (val ([] : List Int)) e)), .v (.int .i64 (roundE n d))]) := rfl
theorem s27_nil3 (n : Int) (d : Int) (s : Bool)   (e : Int) : norm s27 [.v (.int .i64 n), .v (.int .i64 d), .v (.bool s), .v (.slice none 0 0), .v (.slice none 0 0), .v (.int .i64 e)] = some ((lim ([] : List Int) ∧ ([] : List Int).length ≤ 60000000) ∧ (lim ([] : List Int) ∧ ([] : List Int).length ≤ 60000000) ∧ val ([] : List Int) ≠ 0 ∧ sz ([] : List Int) ≤ 800 ∧ sz ([] : List Int) ≤ 800, .many [.v (.agg #[.int .u64 (w4 (roundV n d s (val ([] : List Int)) (val ([] : List Int)) e) 0), .int .u64 (w4 (roundV n d s (val ([] : List Int)) (val ([] : List Int)) e) 1), .int .u64 (w4 (roundV n d s (val ([] : List Int)) (val ([] : List Int)) e) 2), .int .u64 (w4 (roundV n d s (val ([] : List Int)) (val ([] : List Int)) e) 3)]), .v (.int .i64 (roundF n d s (val ([] : List Int)) (val ([] : List Int)) e)), .v (.int .i64 (roundE n d))]) := rfl
noncomputable def G27 : Gam := [(23, .body, norm s23), (24, .body, norm s24), (28, .body, norm s28), (42, .body, norm s42), (43, .body, norm s43), (44, .body, norm s44), (45, .body, norm s45), (46, .body, norm s46), (47, .body, norm s47), (48, .body, norm s48), (49, .body, norm s49), (50, .body, norm s50)]
theorem G27_ok : GamOk Try.prog G27 := gamOk_cons sound_23 (gamOk_cons sound_24 (gamOk_cons sound_28 (gamOk_cons sound_42 (gamOk_cons sound_43 (gamOk_cons sound_44 (gamOk_cons sound_45 (gamOk_cons sound_46 (gamOk_cons sound_47 (gamOk_cons sound_48 (gamOk_cons sound_49 (gamOk_cons sound_50 gamOk_nil)))))))))))
theorem k27_23 : lk G27 23 = some (.body, norm s23) := rfl
theorem k27_24 : lk G27 24 = some (.body, norm s24) := rfl
theorem k27_28 : lk G27 28 = some (.body, norm s28) := rfl
theorem k27_42 : lk G27 42 = some (.body, norm s42) := rfl
theorem k27_43 : lk G27 43 = some (.body, norm s43) := rfl
theorem k27_44 : lk G27 44 = some (.body, norm s44) := rfl
theorem k27_45 : lk G27 45 = some (.body, norm s45) := rfl
theorem k27_46 : lk G27 46 = some (.body, norm s46) := rfl
theorem k27_47 : lk G27 47 = some (.body, norm s47) := rfl
theorem k27_48 : lk G27 48 = some (.body, norm s48) := rfl
theorem k27_49 : lk G27 49 = some (.body, norm s49) := rfl
theorem k27_50 : lk G27 50 = some (.body, norm s50) := rfl
set_option maxHeartbeats 20000000 in
theorem w27 (n : Int) (d : Int) (s : Bool) (a : List Int) (b : List Int) (e : Int) (hp : (lim a ∧ a.length ≤ 60000000) ∧ (lim b ∧ b.length ≤ 60000000) ∧ val b ≠ 0 ∧ sz a ≤ 800 ∧ sz b ≤ 800) : awp ty G27 (code Try.f27) (retP ty Try.f27.results.toList (.many [.v (.agg #[.int .u64 (w4 (roundV n d s (val a) (val b) e) 0), .int .u64 (w4 (roundV n d s (val a) (val b) e) 1), .int .u64 (w4 (roundV n d s (val a) (val b) e) 2), .int .u64 (w4 (roundV n d s (val a) (val b) e) 3)]), .v (.int .i64 (roundF n d s (val a) (val b) e)), .v (.int .i64 (roundE n d))])) (entry 0 [.v (.int .i64 n), .v (.int .i64 d), .v (.bool s), .sl .u64 a, .sl .u64 b, .v (.int .i64 e)]) [] := by
  unfold code
  simp only [Try.f27, Option.getD_some]
  obtain ⟨la, lb, hy0, sa, sb⟩ := hp
  have za := len_limbs_sz la.1
  have zb := len_limbs_sz lb.1
  generalize hx : val a = x at *
  generalize hy : val b = y at *
  have hI0 : infoV n = (if 1 ≤ n ∧ n ≤ 12 then infoT n else infoZ) := rfl
  have gkE := okB0 n
  have hcase : ¬ (1 ≤ n ∧ n ≤ 6) ∨ ((1 ≤ n ∧ n ≤ 6) ∧ ¬ (0 ≤ d ∧ d ≤ 4)) ∨ ((1 ≤ n ∧ n ≤ 6) ∧ (0 ≤ d ∧ d ≤ 4)) := by omega
  rcases hcase with hn | ⟨hn, hd⟩ | ⟨hn, hd⟩
  rcases Classical.em (1 ≤ n ∧ n ≤ 12) with hr | hr
  all_goals first
    | (have hI := infoV_in hr)
    | (have hI := infoV_out hr)
    | (have hI := infoV_in (n := n) (by omega))
  all_goals first
    | (have gk := gkE.trans (decide_eq_true hn))
    | (have gk := gkE.trans (decide_eq_false hn))
  all_goals first
    | (have gr : (decide (d ≥ 0) && decide (d ≤ 4)) = true := by rw [decide_eq_true (by omega : d ≥ 0), decide_eq_true (by omega : d ≤ 4)]; rfl)
    | (have gr : (decide (d ≥ 0) && decide (d ≤ 4)) = false := by
         rw [Bool.and_eq_false_iff, decide_eq_false_iff_not, decide_eq_false_iff_not]; omega)
    | (have gr : decide ((4 : Int) ≥ 5) = false := rfl)
  all_goals clear gkE hI0
  all_goals (obtain ⟨F1, F2, F3, F4, F5, F6, F7, F8, F9, F10, F11⟩ : BF (if 1 ≤ n ∧ n ≤ 6 then n else 1) := bfmt (by split <;> omega))
  all_goals first
    | (have h0 := okR_n (d := d) hn
       obtain ⟨q1, q2, q3⟩ := round_no h0 s x y e
       rw [q1, q2, q3])
    | (have h0 := okR_d (n := n) hd
       obtain ⟨q1, q2, q3⟩ := round_no h0 s x y e
       rw [q1, q2, q3])
    | (have h0 := okR_y hn hd
       obtain ⟨q1, q2, q3⟩ := round_yes h0 s x y e
       rw [q1, q2, q3])
  case' inr.inr =>
    rw [if_pos hn] at F1 F2 F3 F4 F5 F6 F7 F8 F9 F10 F11
    rcases Nat.eq_zero_or_pos x with hx0 | hx0
  case' inr.inr.inr =>
    obtain ⟨bl1, bl2⟩ := lowS_bound hx0 (Nat.pos_of_ne_zero hy0)
    obtain ⟨E', hE'⟩ : ∃ E', min (max e (-130000)) 130000 = E' := ⟨_, rfl⟩
    have xb := blen_le_len x
    have yb := blen_le_len y
    have hcl : (-130000 ≤ E' ∧ E' ≤ 130000) ∧ (E' = e ∨ (E' = 130000 ∧ 130000 < e) ∨ (E' = -130000 ∧ e < -130000)) := by omega
    obtain ⟨L, hL⟩ : ∃ L, lowS x y = L := ⟨_, rfl⟩
    rw [hL] at bl1 bl2
    have hrl : rlow x y e = L + e := by unfold rlow; rw [hL]
    have hway : (fe n + 1 - fp n + fp n ≤ L + E') ∨ (¬ fe n + 1 - fp n + fp n ≤ L + E' ∧ L + E' < 2 - fe n - fp n - 1) ∨ (¬ fe n + 1 - fp n + fp n ≤ L + E' ∧ ¬ L + E' < 2 - fe n - fp n - 1 ∧ E' = e) := by omega
    rcases hway with hA | ⟨hA, hB⟩ | ⟨hA, hB, hEe⟩
  case' inr.inr.inr.inr.inl =>
    have hT := rdiv_tiny (n := n) (d := d) (s := s) hx0 (Nat.pos_of_ne_zero hy0) (show 1 ≤ fp n by omega) (show rlow x y e < 2 - fe n - fp n - 1 by rw [hrl]; omega)
    have hqC : max (2 - fe n - fp n) (2 - fe n - fp n - 2 - fp n + 1) = rq n x y e := by rw [hT.1]; omega
    have ekB : 2 - fe n - fp n - 2 - rq n x y e = -2 := by rw [hT.1]; omega
    obtain ⟨⟨c, ex⟩, hD⟩ : ∃ D, rdiv n d s x y e = D := ⟨_, rfl⟩
    have hdv : divS d s 1 4 = (c, ex) := by rw [← hT.2, hD]
    have hO : (rq n x y e = rlow x y e - fp n + 1 ∧ 2 ^ (fp n - 1).toNat ≤ c ∧ c ≤ 2 ^ (fp n).toNat) ∨ (rq n x y e = 2 - fe n - fp n ∧ c ≤ 2 ^ (fp n - 1).toNat) := by
      refine .inr ⟨hT.1, ?_⟩
      have h1 := (@divS_le d s 1 4).2
      rw [hdv] at h1
      exact Nat.le_trans h1 (Nat.one_le_two_pow)
    have hc1 : c ≤ 1 := by
      have := (@divS_le d s 1 4).2
      rw [hdv] at this; exact this
    have hex : ex = false := by
      have : (divS d s 1 4).2 = false := rfl
      rw [hdv] at this; exact this
    have hcl : c < 2 ^ 256 := Nat.lt_of_le_of_lt hc1 (by decide)
    have rqb := @rq_b n x y e
    clear hT
  case' inr.inr.inr.inr.inr =>
    subst hEe
    have hO := rdiv_ok (n := n) (d := d) (s := s) hn hx0 (Nat.pos_of_ne_zero hy0) (show 2 - fe n - fp n - 1 ≤ rlow x y E' by rw [hrl]; omega)
    have hqC : max (2 - fe n - fp n) (L + E' - fp n + 1) = rq n x y E' := by unfold rq; rw [hrl]
    have ekB : decide ((4 : Int) ≥ 5) = false := rfl
    obtain ⟨⟨c, ex⟩, hD⟩ : ∃ D, rdiv n d s x y E' = D := ⟨_, rfl⟩
    have hdv : divS d s (x * 2 ^ (E' - rq n x y E').toNat) (y * 2 ^ (-(E' - rq n x y E')).toNat) = (c, ex) := hD
    rw [hD] at hO
    have rqb := @rq_b n x y E'
    have hpw : 2 ^ (fp n).toNat ≤ 2 ^ 241 := Nat.pow_le_pow_right (by omega) (by omega)
    have hpw1 : 2 ^ (fp n - 1).toNat ≤ 2 ^ 241 := Nat.pow_le_pow_right (by omega) (by omega)
    have hcl : c < 2 ^ 256 := by
      have h241 : (2 : Nat) ^ 241 < 2 ^ 256 := by decide
      rcases hO with ⟨_, _, h3⟩ | ⟨_, h3⟩
      · exact Nat.lt_of_le_of_lt (Nat.le_trans h3 hpw) h241
      · exact Nat.lt_of_le_of_lt (Nat.le_trans h3 hpw1) h241
  case' inr.inr.inr.inl =>
    have hAr : fe n + 1 - fp n < rq n x y e := by
      have := @rq_b n x y e
      omega
  all_goals first
    | (have hV4 := V4_limbs hcl)
    | (have hV4 : decide ((4 : Int) ≥ 5) = false := rfl)
  all_goals first
    | (have hV5 := V4_limbs (Nat.lt_of_le_of_lt (Nat.div_le_self c 2) hcl))
    | (have hV5 : decide ((4 : Int) ≥ 5) = false := rfl)
  all_goals first
    | (have _h := hqC)
    | (have hqC : decide ((4 : Int) ≥ 5) = false := rfl
       have ekB : decide ((4 : Int) ≥ 5) = false := rfl
       have hdv : decide ((4 : Int) ≥ 5) = false := rfl)
  all_goals first
    | (have hE0 := hE')
    | (have hE0 : decide ((4 : Int) ≥ 5) = false := rfl)
  all_goals (have zx := @len_zero x)
  all_goals (have zy := @len_zero y)
  all_goals first
    | (have gx0 : (((limbs x).length : Int) == 0) = true := by simp only [beq_iff_eq]; omega)
    | (have gx0 : (((limbs x).length : Int) == 0) = false := by simp only [beq_eq_false_iff_ne, ne_eq]; omega)
    | (have gx0 : decide ((4 : Int) ≥ 5) = false := rfl)
  all_goals first
    | (have gy0 : (((limbs y).length : Int) == 0) = true := by simp only [beq_iff_eq]; omega)
    | (have gy0 : (((limbs y).length : Int) == 0) = false := by simp only [beq_eq_false_iff_ne, ne_eq]; omega)
    | (have gy0 : decide ((4 : Int) ≥ 5) = false := rfl)
  all_goals first
    | (have gx8 : decide (((limbs x).length : Int) > 800) = true := by simp only [decide_eq_true_eq]; omega)
    | (have gx8 : decide (((limbs x).length : Int) > 800) = false := by simp only [decide_eq_false_iff_not]; omega)
    | (have gx8 : decide ((4 : Int) ≥ 5) = false := rfl)
  all_goals first
    | (have gy8 : decide (((limbs y).length : Int) > 800) = true := by simp only [decide_eq_true_eq]; omega)
    | (have gy8 : decide (((limbs y).length : Int) > 800) = false := by simp only [decide_eq_false_iff_not]; omega)
    | (have gy8 : decide ((4 : Int) ≥ 5) = false := rfl)
  all_goals first
    | (have gA : decide (L + E' ≥ fe n + 1 - fp n + fp n) = true := by simp only [decide_eq_true_eq]; omega)
    | (have gA : decide (L + E' ≥ fe n + 1 - fp n + fp n) = false := by simp only [decide_eq_false_iff_not]; omega)
    | (have gA : decide ((4 : Int) ≥ 5) = false := rfl)
  all_goals first
    | (have gB : decide (L + E' < 2 - fe n - fp n - 1) = true := by simp only [decide_eq_true_eq]; omega)
    | (have gB : decide (L + E' < 2 - fe n - fp n - 1) = false := by simp only [decide_eq_false_iff_not]; omega)
    | (have gB : decide ((4 : Int) ≥ 5) = false := rfl)
  all_goals repeat' (first
    | ((first
       | (with_reducible refine ops_k ?_; intro X hX)
       | (with_reducible refine opsN_k ?_; intro X hX)
       | (with_reducible show awp _ _ _ _ (keepL _ _) _)
       | with_reducible refine awp_cond_k ?_
       | (with_reducible refine Brk_i ?_ ?_ <;> intro hb <;> (try simp only [hb]) <;> have hq := hb <;> try simp only [decide_eq_true_eq, decide_eq_false_iff_not, gt_iff_lt, ge_iff_le, Int.not_lt, Int.not_le, beq_iff_eq, beq_eq_false_iff_ne, Bool.not_eq_true', Bool.not_eq_false', Bool.and_eq_true, Bool.or_eq_true, Bool.and_eq_false_imp, Bool.or_eq_false_iff, ne_eq, Classical.not_not] at hq)
       | with_reducible refine retP_ret_i ?_
       | with_reducible refine retP_normal_i ?_
       | (with_reducible (show bindG _ _ _ _ _); simp only [hall])) <;> try simp only [Go.AM.S1, Go.AM.S2, Go.AM.S3, Go.AM.S4, Go.AM.S5, Go.AM.S6, Go.AM.S7, Go.AM.S8, Go.AM.S9, Nat.reduceAdd, Nat.reduceMul, Nat.reduceSub, ↓reduceIte, Nat.reduceEqDiff, Nat.reduceLT, Nat.reduceLeDiff, reduceCtorEq, Int.reduceBEq, Int.reduceBNe, Nat.reduceBEq, Int.reduceEq, Int.reduceToNat, Int.reduceLE, Int.reduceLT, Nat.reduceDiv, Int.reduceAdd, Int.reduceSub, Int.reduceMul, Int.reduceNeg, Int.reduceGT, Int.reduceGE, Nat.reduceMod, k27_23, s23_eq, k27_24, s24_eq, k27_28, s28_eq, k27_42, s42_eq, k27_43, s43_eq, s43_nil1, k27_44, s44_eq, s44_nil1, k27_45, s45_eq, s45_nil1, s45_nil2, s45_nil3, k27_46, s46_eq, s46_nil1, s46_nil2, s46_nil3, k27_47, s47_eq, k27_48, s48_eq, s48_nil1, s48_nil2, s48_nil3, k27_49, s49_eq, s49_nil1, k27_50, s50_eq, s50_nil1, ty_3, ty_4, ty_9, ty_26, ty_28, ty_42, ty_53, ty_58, hx, hy, hI, infoT, infoZ, gk, gr, val_limbs, V4_x, gx0, gx8, gy0, gy8, Int.zero_sub, hE0, gA, gB, hqC, ekB, hdv, or84, hV4, hV5, Nat.reducePow, Nat.pow_zero, Nat.mul_one, Nat.one_mul, Int.toNat_one, Nat.pow_one, Int.neg_neg])
    | (with_reducible refine hX _ _ ?_; clear hX X)
    | (with_reducible refine ops_nil_i ?_; try clear hall all)
    | (with_reducible refine opsN_nil_i ?_; try clear hall all)
    | (with_reducible refine hK _ _ ?_; clear hK K)
    | with_reducible refine thenP_normal_i ?_
    | (with_reducible refine zzr34 _ _ ?_; try clear zzr34 Kzzr34)
    | (with_reducible refine zzr33 _ _ ?_; try clear zzr33 Kzzr33)
    | (with_reducible refine zzsr29 _ _ ?_; try clear zzsr29 Kzzsr29)
    | (with_reducible refine zzr31 _ _ ?_; try clear zzr31 Kzzr31)
    | (with_reducible refine zzr30 _ _ ?_; try clear zzr30 Kzzr30)
    | (with_reducible refine zzr29 _ _ ?_; try clear zzr29 Kzzr29)
    | (with_reducible refine zzr28 _ _ ?_; try clear zzr28 Kzzr28)
    | (with_reducible refine zzsr26 _ _ ?_; try clear zzsr26 Kzzsr26)
    | (with_reducible refine zzr27 _ _ ?_; try clear zzr27 Kzzr27)
    | (with_reducible refine zzr26 _ _ ?_; try clear zzr26 Kzzr26)
    | (with_reducible refine zzsr23 _ _ ?_; try clear zzsr23 Kzzsr23)
    | (with_reducible refine zzr24 _ _ ?_; try clear zzr24 Kzzr24)
    | (with_reducible refine zzr23 _ _ ?_; try clear zzr23 Kzzr23)
    | (with_reducible refine zzr22 _ _ ?_; try clear zzr22 Kzzr22)
    | (with_reducible refine zzr21 _ _ ?_; try clear zzr21 Kzzr21)
    | (with_reducible refine zzr20 _ _ ?_; try clear zzr20 Kzzr20)
    | (with_reducible refine zzb1 _ _ ?_; try clear zzb1 Kzzb1)
    | (with_reducible refine zzr17 _ _ ?_; try clear zzr17 Kzzr17)
    | (with_reducible refine zzr18 _ _ ?_; try clear zzr18 Kzzr18)
    | (with_reducible refine zzr16 _ _ ?_; try clear zzr16 Kzzr16)
    | (with_reducible refine zzr15 _ _ ?_; try clear zzr15 Kzzr15)
    | (with_reducible refine zzsr12 _ _ ?_; try clear zzsr12 Kzzsr12)
    | (with_reducible refine zzr13 _ _ ?_; try clear zzr13 Kzzr13)
    | (with_reducible refine zzr12 _ _ ?_; try clear zzr12 Kzzr12)
    | (with_reducible refine zzr11 _ _ ?_; try clear zzr11 Kzzr11)
    | (with_reducible refine zzr10 _ _ ?_; try clear zzr10 Kzzr10)
    | (with_reducible refine zzb0 _ _ ?_; try clear zzb0 Kzzb0)
    | (with_reducible refine zzr4 _ _ ?_; try clear zzr4 Kzzr4)
    | (with_reducible refine zzr6 _ _ ?_; try clear zzr6 Kzzr6)
    | (with_reducible refine zzr9 _ _ ?_; try clear zzr9 Kzzr9)
    | (with_reducible refine zzr8 _ _ ?_; try clear zzr8 Kzzr8)
    | (with_reducible refine zzr7 _ _ ?_; try clear zzr7 Kzzr7)
    | (with_reducible refine zzr5 _ _ ?_; try clear zzr5 Kzzr5)
    | (with_reducible refine zzr3 _ _ ?_; try clear zzr3 Kzzr3)
    | (with_reducible refine zzr2 _ _ ?_; try clear zzr2 Kzzr2)
    | (with_reducible refine zzr1 _ _ ?_; try clear zzr1 Kzzr1)
    | (with_reducible refine zzr0 _ _ ?_; try clear zzr0 Kzzr0)
    | with_reducible refine hJ12 _ _ ?_
    | (with_reducible refine awp_seq_e (a := .seq (.region 12 _ _) _) [(0, .v (.int .i64 n)), (1, .v (.int .i64 d)), (2, .v (.bool s)), (3, .ow 592), (4, .ow 624), (5, .v (.int .i64 E')), (12, .ref 192 0), (15, .ref 240 0), (19, .v (.int .i64 L))] [(592, .ints .u64 (limbs x), true), (624, .ints .u64 (limbs y), true), (192, .vals [.int .u64 0, .int .u64 0, .int .u64 0, .int .u64 0], false), (240, .vals [.int .i64 n, .string (fnm n), .int .i64 (fb n), .int .i64 (fw n), .int .i64 (fp n), .int .i64 (fx n), .int .i64 (2 - fe n - fp n), .int .i64 (fe n + 1 - fp n), .int .i64 (fl n), .bool (fd n)], false)] ?_ ?_; rotate_left; intro KJ hJ12)
    | (with_reducible refine awp_seq_l (a := .region 34 _ _) [12, 13, 14] ?_; intro Kzzr34 zzr34)
    | (with_reducible refine awp_seq_l (a := .region 33 _ _) [12, 27, 28, 29] ?_; intro Kzzr33 zzr33)
    | (with_reducible refine awp_seq_l (a := .seq (.region 29 _ _) _) [0, 2, 12, 22, 25, 27] ?_; intro Kzzsr29 zzsr29)
    | (with_reducible refine awp_seq_l (a := .region 31 _ _) [0, 2, 12, 22, 25, 27, 190] ?_; intro Kzzr31 zzr31)
    | (with_reducible refine awp_seq_l (a := .region 30 _ _) [0, 2, 12, 15, 19, 22, 25, 27] ?_; intro Kzzr30 zzr30)
    | (with_reducible refine awp_seq_l (a := .region 29 _ _) [0, 2, 12, 15, 19, 22, 25, 27, 182] ?_; intro Kzzr29 zzr29)
    | (with_reducible refine awp_seq_l (a := .region 28 _ _) [0, 2, 12, 15, 19, 22, 25, 26, 27] ?_; intro Kzzr28 zzr28)
    | (with_reducible refine awp_seq_l (a := .seq (.region 26 _ _) _) [0, 2, 12, 15, 19, 22, 25, 26] ?_; intro Kzzsr26 zzsr26)
    | (with_reducible refine awp_seq_l (a := .region 27 _ _) [12, 13, 14] ?_; intro Kzzr27 zzr27)
    | (with_reducible refine awp_seq_l (a := .region 26 _ _) [0, 1, 2, 12, 15, 19, 22, 25, 26, 173] ?_; intro Kzzr26 zzr26)
    | (with_reducible refine awp_seq_l (a := .seq (.region 23 _ _) _) [0, 1, 2, 12, 15, 19, 22, 25, 26] ?_; intro Kzzsr23 zzsr23)
    | (with_reducible refine awp_seq_l (a := .region 24 _ _) [0, 1, 2, 12, 15, 19, 22, 25, 26] ?_; intro Kzzr24 zzr24)
    | (with_reducible refine awp_seq_l (a := .region 23 _ _) [0, 1, 2, 12, 15, 19, 22, 25, 26, 162] ?_; intro Kzzr23 zzr23)
    | (with_reducible refine awp_seq_l (a := .region 22 _ _) [0, 1, 2, 12, 15, 19, 22, 25, 26] ?_; intro Kzzr22 zzr22)
    | (with_reducible refine awp_seq_l (a := .region 21 _ _) [0, 1, 2, 12, 15, 19, 22, 23, 24] ?_; intro Kzzr21 zzr21)
    | (with_reducible refine awp_seq_l (a := .region 20 _ _) [0, 1, 2, 3, 4, 5, 12, 15, 19, 22] ?_; intro Kzzr20 zzr20)
    | (with_reducible refine awp_seq_l (a := .block 1 _) [0, 1, 2, 3, 4, 5, 12, 15, 19] ?_; intro Kzzb1 zzb1)
    | (with_reducible refine awp_seq_l (a := .region 17 _ _) [12, 13, 14] ?_; intro Kzzr17 zzr17)
    | (with_reducible refine awp_seq_l (a := .region 18 _ _) [0, 1, 2, 3, 4, 5, 12, 15, 19, 119] ?_; intro Kzzr18 zzr18)
    | (with_reducible refine awp_seq_l (a := .region 16 _ _) [0, 1, 2, 3, 4, 5, 12, 15, 19, 104] ?_; intro Kzzr16 zzr16)
    | (with_reducible refine awp_seq_l (a := .region 15 _ _) [0, 1, 2, 3, 4, 5, 12, 15, 19] ?_; intro Kzzr15 zzr15)
    | (with_reducible refine awp_seq_l (a := .seq (.region 12 _ _) _) [0, 1, 2, 3, 4, 5, 12, 15, 19] ?_; intro Kzzsr12 zzsr12)
    | (with_reducible refine awp_seq_l (a := .region 13 _ _) [0, 1, 2, 3, 4, 5, 12, 15, 19, 98] ?_; intro Kzzr13 zzr13)
    | (with_reducible refine awp_seq_l (a := .region 12 _ _) [0, 1, 2, 3, 4, 5, 12, 15, 19, 20, 21] ?_; intro Kzzr12 zzr12)
    | (with_reducible refine awp_seq_l (a := .region 11 _ _) [0, 1, 2, 3, 4, 5, 12, 15, 19] ?_; intro Kzzr11 zzr11)
    | (with_reducible refine awp_seq_l (a := .region 10 _ _) [0, 1, 2, 3, 4, 5, 12, 15] ?_; intro Kzzr10 zzr10)
    | (with_reducible refine awp_seq_l (a := .block 0 _) [0, 1, 2, 3, 4, 5, 12, 15] ?_; intro Kzzb0 zzb0)
    | (with_reducible refine awp_seq_l (a := .region 4 _ _) [12, 13, 14] ?_; intro Kzzr4 zzr4)
    | (with_reducible refine awp_seq_l (a := .region 6 _ _) [12, 13, 14] ?_; intro Kzzr6 zzr6)
    | (with_reducible refine awp_seq_l (a := .region 9 _ _) [12, 13, 14] ?_; intro Kzzr9 zzr9)
    | (with_reducible refine awp_seq_l (a := .region 8 _ _) [12, 17, 18] ?_; intro Kzzr8 zzr8)
    | (with_reducible refine awp_seq_l (a := .region 7 _ _) [0, 1, 2, 3, 4, 5, 12, 15, 64] ?_; intro Kzzr7 zzr7)
    | (with_reducible refine awp_seq_l (a := .region 5 _ _) [0, 1, 2, 3, 4, 5, 12, 15, 54] ?_; intro Kzzr5 zzr5)
    | (with_reducible refine awp_seq_l (a := .region 3 _ _) [0, 1, 2, 3, 4, 5, 12, 15, 40] ?_; intro Kzzr3 zzr3)
    | (with_reducible refine awp_seq_l (a := .region 2 _ _) [0, 1, 2, 3, 4, 5, 12, 15, 16] ?_; intro Kzzr2 zzr2)
    | (with_reducible refine awp_seq_l (a := .region 1 _ _) [0, 1, 2, 3, 4, 5, 12, 15, 16] ?_; intro Kzzr1 zzr1)
    | (with_reducible refine awp_seq_l (a := .region 0 _ _) [0, 1, 2, 3, 4, 5, 12] ?_; intro Kzzr0 zzr0)
    | (with_reducible refine awp_seq_k ?_; intro K hK)
    | (with_reducible refine awp_region_a ?_; intro all hall K hK)
    | (with_reducible refine awp_draw_n ?_ ?_; kernel_rfl; intro all hall K hK)
    | (with_reducible refine Chk_i ?_ ?_)
    | (with_reducible refine keysC_i ?_; kernel_rfl)
    | (with_reducible first | refine awp_block_i ?_ | refine awp_skip_i ?_ | refine awp_ret_i ?_ | refine awp_exit_i ?_ | refine thenP_ret_i ?_ | refine thenP_exit_i ?_ | refine lpP_ret_i ?_ | refine lpP_exit_i ?_ | refine unrP_succ_i ?_ | refine unrP_ret_i ?_ | refine unrP_exit_i ?_ | refine blockP_normal_i ?_ | refine blockP_ret_i ?_)
    | (with_reducible refine blockP_exit_i ?_; simp only [↓reduceIte, Nat.reduceEqDiff])
    | with_reducible refine lpP_normal_i ?_)
  all_goals (try clear zzr0; try clear Kzzr0)
  all_goals (try clear zzr1; try clear Kzzr1)
  all_goals (try clear zzr2; try clear Kzzr2)
  all_goals (try clear zzr3; try clear Kzzr3)
  all_goals (try clear zzr5; try clear Kzzr5)
  all_goals (try clear zzr7; try clear Kzzr7)
  all_goals (try clear zzr8; try clear Kzzr8)
  all_goals (try clear zzr9; try clear Kzzr9)
  all_goals (try clear zzr6; try clear Kzzr6)
  all_goals (try clear zzr4; try clear Kzzr4)
  all_goals (try clear zzb0; try clear Kzzb0)
  all_goals (try clear zzr10; try clear Kzzr10)
  all_goals (try clear zzr11; try clear Kzzr11)
  all_goals (try clear zzr12; try clear Kzzr12)
  all_goals (try clear zzr13; try clear Kzzr13)
  all_goals (try clear zzsr12; try clear Kzzsr12)
  all_goals (try clear zzr15; try clear Kzzr15)
  all_goals (try clear zzr16; try clear Kzzr16)
  all_goals (try clear zzr18; try clear Kzzr18)
  all_goals (try clear zzr17; try clear Kzzr17)
  all_goals (try clear zzb1; try clear Kzzb1)
  all_goals (try clear zzr20; try clear Kzzr20)
  all_goals (try clear zzr21; try clear Kzzr21)
  all_goals (try clear zzr22; try clear Kzzr22)
  all_goals (try clear zzr23; try clear Kzzr23)
  all_goals (try clear zzr24; try clear Kzzr24)
  all_goals (try clear zzsr23; try clear Kzzsr23)
  all_goals (try clear zzr26; try clear Kzzr26)
  all_goals (try clear zzr27; try clear Kzzr27)
  all_goals (try clear zzsr26; try clear Kzzsr26)
  all_goals (try clear zzr28; try clear Kzzr28)
  all_goals (try clear zzr29; try clear Kzzr29)
  all_goals (try clear zzr30; try clear Kzzr30)
  all_goals (try clear zzr31; try clear Kzzr31)
  all_goals (try clear zzsr29; try clear Kzzsr29)
  all_goals (try clear zzr33; try clear Kzzr33)
  all_goals (try clear zzr34; try clear Kzzr34)
  all_goals clear hV4 hV5 hqC ekB hdv gx0 gy0 gx8 gy8 gA gB gk gr hI
  all_goals (try simp only [inR])
  all_goals (have sx := sz_limbs x)
  all_goals (have sy := sz_limbs y)
  all_goals (have lx := len_limbs x)
  all_goals (have ly := len_limbs y)
  all_goals first
    | omega
    | exact ⟨la.1, by omega⟩
    | exact ⟨lb.1, by omega⟩
    | exact ⟨lim_limbs _, by omega⟩
    | exact ⟨lim_limbs _, lim_limbs _, ⟨by omega, by omega⟩, fun _ => by omega, fun _ => by omega, by omega, by omega⟩
    | exact ⟨lim_limbs _, lim_limbs _, Nat.le_of_ble_eq_true rfl, fun _ => by decide⟩
    | exact ⟨⟨lim_limbs _, Nat.le_of_ble_eq_true rfl⟩, ⟨lim_limbs _, Nat.le_of_ble_eq_true rfl⟩, Nat.le_of_ble_eq_true rfl, Nat.le_of_ble_eq_true rfl⟩
    | exact ⟨⟨lim_limbs _, by rw [len_pow (by omega)]; omega⟩, lim_limbs _, by rw [len_pow (by omega)]; omega⟩
    | exact ⟨⟨lim_limbs _, by rw [len_pow (by omega)]; omega⟩, ⟨lim_limbs _, by rw [len_pow (by omega)]; omega⟩, Nat.mul_ne_zero (by omega) (Nat.pos_iff_ne_zero.1 (Nat.two_pow_pos _)), by rw [sz_limbs, len_pow (by omega)]; omega, by rw [sz_limbs, len_pow (by omega)]; omega⟩
    | exact ⟨lim_limbs _, len4 hcl⟩
    | exact ⟨lim_limbs _, Nat.le_trans (len4 hcl) (by omega)⟩
    | exact ⟨lim_limbs _, len4 (Nat.lt_of_le_of_lt (Nat.div_le_self c 2) hcl)⟩
    | exact ⟨hn, ⟨lim_get (lim_limbs _), lim_get (lim_limbs _), lim_get (lim_limbs _), lim_get (lim_limbs _)⟩, rnd_isD1 F1 hO rqb.1 (by omega) (by omega)⟩
    | exact ⟨hn, ⟨lim_get (lim_limbs _), lim_get (lim_limbs _), lim_get (lim_limbs _), lim_get (lim_limbs _)⟩, rnd_isD0 F1 hO rqb.1 (by omega) (by omega)⟩
    | exact ⟨hn, .inl ⟨rfl, rfl, by omega, by omega, .inr ⟨by show ((0 : Nat) : Int) < _; omega, rfl⟩⟩⟩
    | (rw [(rnd_ovA (n := n) (d := d) (s := s) (by omega) hAr).1, (rnd_ovA (n := n) (d := d) (s := s) (by omega) hAr).2]; done)
    | (rw [(rnd_ovA (n := n) (d := d) (s := s) (by omega) hAr).1, (rnd_ovA (n := n) (d := d) (s := s) (by omega) hAr).2]; exact ⟨rfl, rfl⟩)
    | (obtain ⟨v1, v2⟩ := rnd_ov1 (by omega) hD (by omega) (by omega)
       rw [v1, v2]
       exact ⟨rfl, rfl⟩)
    | (obtain ⟨v1, v2⟩ := rnd_ov0 (by omega) hD (by omega) (by omega)
       rw [v1, v2]
       exact ⟨rfl, rfl⟩)
    | (have v1 := rnd_num1 (by omega) hD (by omega) (by omega)
       obtain ⟨f1, f2, f3⟩ := rnd_f (by omega) hD (.inl ⟨by omega, by omega⟩)
       rw [v1]
       first
         | (rw [f1 (by simp_all)]; exact ⟨rfl, rfl⟩)
         | (rw [f2 (by simp_all) (by omega)]; exact ⟨rfl, rfl⟩)
         | (rw [f3 (by simp_all) (by omega)]; exact ⟨rfl, rfl⟩))
    | (have v1 := rnd_num0 (by omega) hD (by omega) (by omega)
       obtain ⟨f1, f2, f3⟩ := rnd_f (by omega) hD (.inr ⟨by omega, by omega⟩)
       rw [v1]
       first
         | (rw [f1 (by simp_all)]; exact ⟨rfl, rfl⟩)
         | (rw [f2 (by simp_all) (by omega)]; exact ⟨rfl, rfl⟩)
         | (rw [f3 (by simp_all) (by omega)]; exact ⟨rfl, rfl⟩))
    | (rw [low_lt hL hq]; (refine ent_ok [(592, 592), (624, 624), (192, 192), (240, 240)] rfl ?_ ?_ <;> simp only [memLe, slotsLe, AvLe, lk, ↓reduceIte, Nat.reduceEqDiff, Option.isSome_some, and_self, and_true, true_and, reduceCtorEq, List.map_nil, List.map_cons, Option.some.injEq, AV.v.injEq, Value.int.injEq, Value.bool.injEq, AV.rd.injEq, AV.ow.injEq, AV.al.injEq, AV.ref.injEq] <;> omega); done)
    | (rw [low_ge hL hq]; (refine ent_ok [(592, 592), (624, 624), (192, 192), (240, 240)] rfl ?_ ?_ <;> simp only [memLe, slotsLe, AvLe, lk, ↓reduceIte, Nat.reduceEqDiff, Option.isSome_some, and_self, and_true, true_and, reduceCtorEq, List.map_nil, List.map_cons, Option.some.injEq, AV.v.injEq, Value.int.injEq, Value.bool.injEq, AV.rd.injEq, AV.ow.injEq, AV.al.injEq, AV.ref.injEq] <;> omega); done)
    | (rw [(rnd_zero (n := n) (d := d) (s := s) (e := e) (y := y) hx0).1, (rnd_zero (n := n) (d := d) (s := s) (e := e) (y := y) hx0).2]; exact ⟨rfl, rfl⟩)
    | rfl
    | (simp [w4]; done)
    | (simp only [w40]; done)
    | (rw [w40, w40, w40, w40]; done)
    | ((refine ent_ok [(592, 592), (624, 624), (192, 192), (240, 240)] rfl ?_ ?_ <;> simp only [memLe, slotsLe, AvLe, lk, ↓reduceIte, Nat.reduceEqDiff, Option.isSome_some, and_self, and_true, true_and, reduceCtorEq, List.map_nil, List.map_cons, Option.some.injEq, AV.v.injEq, Value.int.injEq, Value.bool.injEq, AV.rd.injEq, AV.ow.injEq, AV.al.injEq, AV.ref.injEq] <;> omega); done)
    | skip
theorem sound_27 : Sound Try.prog 27 .body (norm s27) := by
  refine sound_norm (sound_body Try.func27 (show Try.f27.body = some (code Try.f27) from rfl) (by kernel_rfl) tysOk G27_ok (drawOk_ok (by kernel_rfl) tysOk G27_ok) (by kernel_rfl) fun ds p r hs hp => ?_)
  unfold s27 at hs
  split at hs
  · cases hs; exact ⟨Nat.le_of_ble_eq_true (by kernel_rfl), w27 _ _ _ _ _ _ hp⟩
  · cases hs
end Go.Proofs.AMT
set_option maxRecDepth 20000
namespace Go.Proofs.AMT
open Go.AM Go.AM.LN
attribute [local congr] bindO_congr bindS_congr bindG_congr awpOps_congr aOne_congr awp_congr aCond_congr awpD_congr dOne_congr keysB_congr nOne_congr thenP_congr blockP_congr Chk_congr Brk_congr
noncomputable def s26 : CSpec := fun ds => match ds with
  | [.v (.int .i64 n), .v (.int .i64 d), .v (.bool s), .v (.agg ⟨[.int .u64 c0, .int .u64 c1, .int .u64 c2, .int .u64 c3]⟩), .v (.int .i64 e)] => some ((0 ≤ c0 ∧ c0 < 18446744073709551616) ∧ (0 ≤ c1 ∧ c1 < 18446744073709551616) ∧ (0 ≤ c2 ∧ c2 < 18446744073709551616) ∧ (0 ≤ c3 ∧ c3 < 18446744073709551616), .many [.v (.agg #[.int .u64 (w4 (roundV n d s (V4 c0 c1 c2 c3) 1 e) 0), .int .u64 (w4 (roundV n d s (V4 c0 c1 c2 c3) 1 e) 1), .int .u64 (w4 (roundV n d s (V4 c0 c1 c2 c3) 1 e) 2), .int .u64 (w4 (roundV n d s (V4 c0 c1 c2 c3) 1 e) 3)]), .v (.int .i64 (roundF n d s (V4 c0 c1 c2 c3) 1 e)), .v (.int .i64 (roundE n d))])
  | _ => none
theorem s26_eq (n : Int) (d : Int) (s : Bool) (c0 c1 c2 c3 : Int) (e : Int) : norm s26 [.v (.int .i64 n), .v (.int .i64 d), .v (.bool s), .v (.agg #[.int .u64 c0, .int .u64 c1, .int .u64 c2, .int .u64 c3]), .v (.int .i64 e)] = some ((0 ≤ c0 ∧ c0 < 18446744073709551616) ∧ (0 ≤ c1 ∧ c1 < 18446744073709551616) ∧ (0 ≤ c2 ∧ c2 < 18446744073709551616) ∧ (0 ≤ c3 ∧ c3 < 18446744073709551616), .many [.v (.agg #[.int .u64 (w4 (roundV n d s (V4 c0 c1 c2 c3) 1 e) 0), .int .u64 (w4 (roundV n d s (V4 c0 c1 c2 c3) 1 e) 1), .int .u64 (w4 (roundV n d s (V4 c0 c1 c2 c3) 1 e) 2), .int .u64 (w4 (roundV n d s (V4 c0 c1 c2 c3) 1 e) 3)]), .v (.int .i64 (roundF n d s (V4 c0 c1 c2 c3) 1 e)), .v (.int .i64 (roundE n d))]) := rfl
noncomputable def G26 : Gam := [(27, .body, norm s27), (28, .body, norm s28)]
theorem G26_ok : GamOk Try.prog G26 := gamOk_cons sound_27 (gamOk_cons sound_28 gamOk_nil)
theorem k26_27 : lk G26 27 = some (.body, norm s27) := rfl
theorem k26_28 : lk G26 28 = some (.body, norm s28) := rfl
set_option maxHeartbeats 20000000 in
theorem w26 (n : Int) (d : Int) (s : Bool) (c0 c1 c2 c3 : Int) (e : Int) (hp : (0 ≤ c0 ∧ c0 < 18446744073709551616) ∧ (0 ≤ c1 ∧ c1 < 18446744073709551616) ∧ (0 ≤ c2 ∧ c2 < 18446744073709551616) ∧ (0 ≤ c3 ∧ c3 < 18446744073709551616)) : awp ty G26 (code Try.f26) (retP ty Try.f26.results.toList (.many [.v (.agg #[.int .u64 (w4 (roundV n d s (V4 c0 c1 c2 c3) 1 e) 0), .int .u64 (w4 (roundV n d s (V4 c0 c1 c2 c3) 1 e) 1), .int .u64 (w4 (roundV n d s (V4 c0 c1 c2 c3) 1 e) 2), .int .u64 (w4 (roundV n d s (V4 c0 c1 c2 c3) 1 e) 3)]), .v (.int .i64 (roundF n d s (V4 c0 c1 c2 c3) 1 e)), .v (.int .i64 (roundE n d))])) (entry 0 [.v (.int .i64 n), .v (.int .i64 d), .v (.bool s), .v (.agg #[.int .u64 c0, .int .u64 c1, .int .u64 c2, .int .u64 c3]), .v (.int .i64 e)]) [] := by
  unfold code
  simp only [Try.f26, Option.getD_some]
  have hV : val [c0, c1, c2, c3] = (V4 c0 c1 c2 c3) := rfl
  have i1 : (1 : Int).toNat = 1 := rfl
  have l4 := lim4 hp.1 hp.2.1 hp.2.2.1 hp.2.2.2
  have s4 := sz_le [c0, c1, c2, c3]
  have l1 := len_b (x := 1) (k := 64) (by decide)
  all_goals repeat' (first
    | ((first
       | (with_reducible refine ops_k ?_; intro X hX)
       | (with_reducible refine opsN_k ?_; intro X hX)
       | (with_reducible show awp _ _ _ _ (keepL _ _) _)
       | (with_reducible refine hX _ _ _ _ ?_; clear hX X)
       | (with_reducible refine opsD_k ?_; intro X hX)
       | with_reducible refine awp_cond_k ?_
       | (with_reducible refine Brk_i ?_ ?_ <;> intro hb <;> (try simp only [hb]) <;> have hq := hb <;> try simp only [decide_eq_true_eq, decide_eq_false_iff_not, gt_iff_lt, ge_iff_le, Int.not_lt, Int.not_le, beq_iff_eq, beq_eq_false_iff_ne, Bool.not_eq_true', Bool.not_eq_false', Bool.and_eq_true, Bool.or_eq_true, Bool.and_eq_false_imp, Bool.or_eq_false_iff, ne_eq, Classical.not_not] at hq)
       | with_reducible refine retP_ret_i ?_
       | with_reducible refine retP_normal_i ?_
       | (with_reducible (show bindG _ _ _ _ _); simp only [hall])) <;> try simp only [Go.AM.S1, Go.AM.S2, Go.AM.S3, Go.AM.S4, Go.AM.S5, Go.AM.S6, Go.AM.S7, Go.AM.S8, Go.AM.S9, Nat.reduceAdd, Nat.reduceMul, Nat.reduceSub, ↓reduceIte, Nat.reduceEqDiff, Nat.reduceLT, Nat.reduceLeDiff, reduceCtorEq, Int.reduceBEq, Int.reduceBNe, Nat.reduceBEq, Int.reduceEq, Int.reduceToNat, Int.reduceLE, Int.reduceLT, Nat.reduceDiv, Int.reduceAdd, Int.reduceSub, Int.reduceMul, Int.reduceNeg, Int.reduceGT, Int.reduceGE, Nat.reduceMod, k26_27, s27_eq, s27_nil1, s27_nil2, s27_nil3, k26_28, s28_eq, ty_3, ty_4, ty_26, ty_28, ty_42, hV, i1, val_limbs, toInts])
    | (with_reducible refine hX _ _ ?_; clear hX X)
    | (with_reducible refine opsD_nil_i ?_; try clear hall all)
    | (with_reducible refine keysB_i ?_; kernel_rfl)
    | ((with_reducible show clashK _ _ _ = true); kernel_rfl)
    | (with_reducible refine ops_nil_i ?_; try clear hall all)
    | (with_reducible refine opsN_nil_i ?_; try clear hall all)
    | (with_reducible refine hK _ _ ?_; clear hK K)
    | with_reducible refine thenP_normal_i ?_
    | (with_reducible refine zzr1 _ _ ?_; try clear zzr1 Kzzr1)
    | (with_reducible refine zzr0 _ _ ?_; try clear zzr0 Kzzr0)
    | (with_reducible refine awp_seq_l (a := .region 1 _ _) [10, 11, 12] ?_; intro Kzzr1 zzr1)
    | (with_reducible refine awp_seq_l (a := .region 0 _ _) [0, 1, 2, 4, 8, 10] ?_; intro Kzzr0 zzr0)
    | (with_reducible refine awp_seq_k ?_; intro K hK)
    | (with_reducible refine awp_region_a ?_; intro all hall K hK)
    | (with_reducible refine awp_draw_a (id := 1) ?_ ?_; kernel_rfl; intro all hall K hK)
    | (with_reducible refine awp_draw_n ?_ ?_; kernel_rfl; intro all hall K hK)
    | (with_reducible refine Chk_i ?_ ?_)
    | (with_reducible refine keysC_i ?_; kernel_rfl)
    | (with_reducible first | refine awp_block_i ?_ | refine awp_skip_i ?_ | refine awp_ret_i ?_ | refine awp_exit_i ?_ | refine thenP_ret_i ?_ | refine thenP_exit_i ?_ | refine lpP_ret_i ?_ | refine lpP_exit_i ?_ | refine unrP_succ_i ?_ | refine unrP_ret_i ?_ | refine unrP_exit_i ?_ | refine blockP_normal_i ?_ | refine blockP_ret_i ?_)
    | (with_reducible refine blockP_exit_i ?_; simp only [↓reduceIte, Nat.reduceEqDiff])
    | with_reducible refine lpP_normal_i ?_)
  all_goals (try clear zzr0; try clear Kzzr0)
  all_goals (try clear zzr1; try clear Kzzr1)
  all_goals (try simp only [inR])
  all_goals first
    | omega
    | exact ⟨l4, ⟨lim_limbs _, by omega⟩, Nat.le_trans s4 (Nat.le_of_ble_eq_true rfl), by rw [sz_limbs]; omega⟩
    | skip
theorem sound_26 : Sound Try.prog 26 .body (norm s26) := by
  refine sound_norm (sound_body Try.func26 (show Try.f26.body = some (code Try.f26) from rfl) (by kernel_rfl) tysOk G26_ok (drawOk_ok (by kernel_rfl) tysOk G26_ok) (by kernel_rfl) fun ds p r hs hp => ?_)
  unfold s26 at hs
  split at hs
  · cases hs; exact ⟨Nat.le_of_ble_eq_true (by kernel_rfl), w26 _ _ _ _ _ _ _ _ hp⟩
  · cases hs
end Go.Proofs.AMT
set_option maxRecDepth 20000
namespace Go.Proofs.AMT
open Go.AM Go.AM.LN
attribute [local congr] bindO_congr bindS_congr bindG_congr awpOps_congr aOne_congr awp_congr aCond_congr awpD_congr dOne_congr keysB_congr nOne_congr thenP_congr blockP_congr Chk_congr Brk_congr
noncomputable def s10 : CSpec := fun ds => match ds with
  | [.v (.int .i64 n), .v (.int .i64 m), .v (.int .i64 d), .v (.agg ⟨[.int .u64 b0, .int .u64 b1, .int .u64 b2, .int .u64 b3]⟩)] => some (((0 ≤ b0 ∧ b0 < 18446744073709551616) ∧ (0 ≤ b1 ∧ b1 < 18446744073709551616) ∧ (0 ≤ b2 ∧ b2 < 18446744073709551616) ∧ (0 ≤ b3 ∧ b3 < 18446744073709551616)) ∧ (1 ≤ m ∧ m ≤ 6) ∧ (0 ≤ d ∧ d ≤ 4) ∧ okB n (V4 b0 b1 b2 b3) = true ∧ uC n (V4 b0 b1 b2 b3) = 1 ∧ uV n (V4 b0 b1 b2 b3) ≠ 0, .many [.v (.agg #[.int .u64 (w4 (rndV m d (uS n (V4 b0 b1 b2 b3)) (uV n (V4 b0 b1 b2 b3)) 1 (uX n (V4 b0 b1 b2 b3))) 0), .int .u64 (w4 (rndV m d (uS n (V4 b0 b1 b2 b3)) (uV n (V4 b0 b1 b2 b3)) 1 (uX n (V4 b0 b1 b2 b3))) 1), .int .u64 (w4 (rndV m d (uS n (V4 b0 b1 b2 b3)) (uV n (V4 b0 b1 b2 b3)) 1 (uX n (V4 b0 b1 b2 b3))) 2), .int .u64 (w4 (rndV m d (uS n (V4 b0 b1 b2 b3)) (uV n (V4 b0 b1 b2 b3)) 1 (uX n (V4 b0 b1 b2 b3))) 3)]), .v (.int .i64 (rndF m d (uS n (V4 b0 b1 b2 b3)) (uV n (V4 b0 b1 b2 b3)) 1 (uX n (V4 b0 b1 b2 b3)))), .v (.int .i64 0)])
  | _ => none
theorem s10_eq (n : Int) (m : Int) (d : Int) (b0 b1 b2 b3 : Int) : norm s10 [.v (.int .i64 n), .v (.int .i64 m), .v (.int .i64 d), .v (.agg #[.int .u64 b0, .int .u64 b1, .int .u64 b2, .int .u64 b3])] = some (((0 ≤ b0 ∧ b0 < 18446744073709551616) ∧ (0 ≤ b1 ∧ b1 < 18446744073709551616) ∧ (0 ≤ b2 ∧ b2 < 18446744073709551616) ∧ (0 ≤ b3 ∧ b3 < 18446744073709551616)) ∧ (1 ≤ m ∧ m ≤ 6) ∧ (0 ≤ d ∧ d ≤ 4) ∧ okB n (V4 b0 b1 b2 b3) = true ∧ uC n (V4 b0 b1 b2 b3) = 1 ∧ uV n (V4 b0 b1 b2 b3) ≠ 0, .many [.v (.agg #[.int .u64 (w4 (rndV m d (uS n (V4 b0 b1 b2 b3)) (uV n (V4 b0 b1 b2 b3)) 1 (uX n (V4 b0 b1 b2 b3))) 0), .int .u64 (w4 (rndV m d (uS n (V4 b0 b1 b2 b3)) (uV n (V4 b0 b1 b2 b3)) 1 (uX n (V4 b0 b1 b2 b3))) 1), .int .u64 (w4 (rndV m d (uS n (V4 b0 b1 b2 b3)) (uV n (V4 b0 b1 b2 b3)) 1 (uX n (V4 b0 b1 b2 b3))) 2), .int .u64 (w4 (rndV m d (uS n (V4 b0 b1 b2 b3)) (uV n (V4 b0 b1 b2 b3)) 1 (uX n (V4 b0 b1 b2 b3))) 3)]), .v (.int .i64 (rndF m d (uS n (V4 b0 b1 b2 b3)) (uV n (V4 b0 b1 b2 b3)) 1 (uX n (V4 b0 b1 b2 b3)))), .v (.int .i64 0)]) := rfl
noncomputable def G10 : Gam := [(22, .body, norm s22), (23, .body, norm s23), (24, .body, norm s24), (25, .body, norm s25), (26, .body, norm s26)]
theorem G10_ok : GamOk Try.prog G10 := gamOk_cons sound_22 (gamOk_cons sound_23 (gamOk_cons sound_24 (gamOk_cons sound_25 (gamOk_cons sound_26 gamOk_nil))))
theorem k10_22 : lk G10 22 = some (.body, norm s22) := rfl
theorem k10_23 : lk G10 23 = some (.body, norm s23) := rfl
theorem k10_24 : lk G10 24 = some (.body, norm s24) := rfl
theorem k10_25 : lk G10 25 = some (.body, norm s25) := rfl
theorem k10_26 : lk G10 26 = some (.body, norm s26) := rfl
set_option maxHeartbeats 20000000 in
theorem w10 (n : Int) (m : Int) (d : Int) (b0 b1 b2 b3 : Int) (hp : ((0 ≤ b0 ∧ b0 < 18446744073709551616) ∧ (0 ≤ b1 ∧ b1 < 18446744073709551616) ∧ (0 ≤ b2 ∧ b2 < 18446744073709551616) ∧ (0 ≤ b3 ∧ b3 < 18446744073709551616)) ∧ (1 ≤ m ∧ m ≤ 6) ∧ (0 ≤ d ∧ d ≤ 4) ∧ okB n (V4 b0 b1 b2 b3) = true ∧ uC n (V4 b0 b1 b2 b3) = 1 ∧ uV n (V4 b0 b1 b2 b3) ≠ 0) : awp ty G10 (code Try.f10) (retP ty Try.f10.results.toList (.many [.v (.agg #[.int .u64 (w4 (rndV m d (uS n (V4 b0 b1 b2 b3)) (uV n (V4 b0 b1 b2 b3)) 1 (uX n (V4 b0 b1 b2 b3))) 0), .int .u64 (w4 (rndV m d (uS n (V4 b0 b1 b2 b3)) (uV n (V4 b0 b1 b2 b3)) 1 (uX n (V4 b0 b1 b2 b3))) 1), .int .u64 (w4 (rndV m d (uS n (V4 b0 b1 b2 b3)) (uV n (V4 b0 b1 b2 b3)) 1 (uX n (V4 b0 b1 b2 b3))) 2), .int .u64 (w4 (rndV m d (uS n (V4 b0 b1 b2 b3)) (uV n (V4 b0 b1 b2 b3)) 1 (uX n (V4 b0 b1 b2 b3))) 3)]), .v (.int .i64 (rndF m d (uS n (V4 b0 b1 b2 b3)) (uV n (V4 b0 b1 b2 b3)) 1 (uX n (V4 b0 b1 b2 b3)))), .v (.int .i64 0)])) (entry 0 [.v (.int .i64 n), .v (.int .i64 m), .v (.int .i64 d), .v (.agg #[.int .u64 b0, .int .u64 b1, .int .u64 b2, .int .u64 b3])]) [] := by
  unfold code
  simp only [Try.f10, Option.getD_some]
  obtain ⟨hb, hm, hd, hO, hc, h0⟩ := hp
  obtain ⟨hn, _⟩ := okB_in hO
  have hdc : dC n (V4 b0 b1 b2 b3) = 1 := by unfold dC; rw [if_pos hO, hc]
  have hds : dS n (V4 b0 b1 b2 b3) = uS n (V4 b0 b1 b2 b3) := if_pos hO
  have hdx : dX n (V4 b0 b1 b2 b3) = uX n (V4 b0 b1 b2 b3) := if_pos hO
  have hdv : dV n (V4 b0 b1 b2 b3) = uV n (V4 b0 b1 b2 b3) := if_pos hO
  have hV4 := V4_w4 (uV_lt hn hc)
  have hI := infoV_in (n := m) (by omega)
  have hO2 : okB m 0 = true := (okB0 m).trans (decide_eq_true hm)
  have gr : (decide (d ≥ 0) && decide (d ≤ 4)) = true := by rw [decide_eq_true (by omega : d ≥ 0), decide_eq_true (by omega : d ≤ 4)]; rfl
  obtain ⟨q1, q2, q3⟩ := round_yes (okR_y hm hd) (uS n (V4 b0 b1 b2 b3)) (uV n (V4 b0 b1 b2 b3)) 1 (uX n (V4 b0 b1 b2 b3))
  all_goals repeat' (first
    | ((first
       | (with_reducible refine ops_k ?_; intro X hX)
       | (with_reducible refine opsN_k ?_; intro X hX)
       | (with_reducible show awp _ _ _ _ (keepL _ _) _)
       | with_reducible refine awp_cond_k ?_
       | (with_reducible refine Brk_i ?_ ?_ <;> intro hb <;> (try simp only [hb]) <;> have hq := hb <;> try simp only [decide_eq_true_eq, decide_eq_false_iff_not, gt_iff_lt, ge_iff_le, Int.not_lt, Int.not_le, beq_iff_eq, beq_eq_false_iff_ne, Bool.not_eq_true', Bool.not_eq_false', Bool.and_eq_true, Bool.or_eq_true, Bool.and_eq_false_imp, Bool.or_eq_false_iff, ne_eq, Classical.not_not] at hq)
       | with_reducible refine retP_ret_i ?_
       | with_reducible refine retP_normal_i ?_
       | (with_reducible (show bindG _ _ _ _ _); simp only [hall])) <;> try simp only [Go.AM.S1, Go.AM.S2, Go.AM.S3, Go.AM.S4, Go.AM.S5, Go.AM.S6, Go.AM.S7, Go.AM.S8, Go.AM.S9, Nat.reduceAdd, Nat.reduceMul, Nat.reduceSub, ↓reduceIte, Nat.reduceEqDiff, Nat.reduceLT, Nat.reduceLeDiff, reduceCtorEq, Int.reduceBEq, Int.reduceBNe, Nat.reduceBEq, Int.reduceEq, Int.reduceToNat, Int.reduceLE, Int.reduceLT, Nat.reduceDiv, Int.reduceAdd, Int.reduceSub, Int.reduceMul, Int.reduceNeg, Int.reduceGT, Int.reduceGE, Nat.reduceMod, k10_22, s22_eq, k10_23, s23_eq, k10_24, s24_eq, k10_25, s25_eq, k10_26, s26_eq, ty_3, ty_4, ty_9, ty_26, ty_28, ty_29, ty_53, ty_58, hO, hdc, hds, hdx, hdv, hV4, hO2, gr, q1, q2, q3, V4_x, Int.toNat_zero, hI, infoT])
    | (with_reducible refine hX _ _ ?_; clear hX X)
    | (with_reducible refine ops_nil_i ?_; try clear hall all)
    | (with_reducible refine opsN_nil_i ?_; try clear hall all)
    | (with_reducible refine hK _ _ ?_; clear hK K)
    | with_reducible refine thenP_normal_i ?_
    | (with_reducible refine zzr8 _ _ ?_; try clear zzr8 Kzzr8)
    | (with_reducible refine zzsr5 _ _ ?_; try clear zzsr5 Kzzsr5)
    | (with_reducible refine zzr7 _ _ ?_; try clear zzr7 Kzzr7)
    | (with_reducible refine zzr6 _ _ ?_; try clear zzr6 Kzzr6)
    | (with_reducible refine zzr5 _ _ ?_; try clear zzr5 Kzzr5)
    | (with_reducible refine zzsr2 _ _ ?_; try clear zzsr2 Kzzsr2)
    | (with_reducible refine zzr4 _ _ ?_; try clear zzr4 Kzzr4)
    | (with_reducible refine zzr3 _ _ ?_; try clear zzr3 Kzzr3)
    | (with_reducible refine zzr2 _ _ ?_; try clear zzr2 Kzzr2)
    | (with_reducible refine zzr1 _ _ ?_; try clear zzr1 Kzzr1)
    | (with_reducible refine zzr0 _ _ ?_; try clear zzr0 Kzzr0)
    | (with_reducible refine awp_seq_l (a := .region 8 _ _) [8, 9, 10] ?_; intro Kzzr8 zzr8)
    | (with_reducible refine awp_seq_l (a := .seq (.region 5 _ _) _) [1, 2, 8, 11] ?_; intro Kzzsr5 zzsr5)
    | (with_reducible refine awp_seq_l (a := .region 7 _ _) [8, 9, 10] ?_; intro Kzzr7 zzr7)
    | (with_reducible refine awp_seq_l (a := .region 6 _ _) [1, 2, 8, 11, 15, 16, 49] ?_; intro Kzzr6 zzr6)
    | (with_reducible refine awp_seq_l (a := .region 5 _ _) [1, 2, 8, 11, 15, 16, 17] ?_; intro Kzzr5 zzr5)
    | (with_reducible refine awp_seq_l (a := .seq (.region 2 _ _) _) [1, 2, 8, 11] ?_; intro Kzzsr2 zzsr2)
    | (with_reducible refine awp_seq_l (a := .region 4 _ _) [8, 9, 10] ?_; intro Kzzr4 zzr4)
    | (with_reducible refine awp_seq_l (a := .region 3 _ _) [1, 2, 8, 11, 40] ?_; intro Kzzr3 zzr3)
    | (with_reducible refine awp_seq_l (a := .region 2 _ _) [1, 2, 8, 11, 12, 14] ?_; intro Kzzr2 zzr2)
    | (with_reducible refine awp_seq_l (a := .region 1 _ _) [1, 2, 8, 11, 12] ?_; intro Kzzr1 zzr1)
    | (with_reducible refine awp_seq_l (a := .region 0 _ _) [0, 1, 2, 7, 8] ?_; intro Kzzr0 zzr0)
    | (with_reducible refine awp_seq_k ?_; intro K hK)
    | (with_reducible refine awp_region_a ?_; intro all hall K hK)
    | (with_reducible refine awp_draw_n ?_ ?_; kernel_rfl; intro all hall K hK)
    | (with_reducible refine Chk_i ?_ ?_)
    | (with_reducible refine keysC_i ?_; kernel_rfl)
    | (with_reducible first | refine awp_block_i ?_ | refine awp_skip_i ?_ | refine awp_ret_i ?_ | refine awp_exit_i ?_ | refine thenP_ret_i ?_ | refine thenP_exit_i ?_ | refine lpP_ret_i ?_ | refine lpP_exit_i ?_ | refine unrP_succ_i ?_ | refine unrP_ret_i ?_ | refine unrP_exit_i ?_ | refine blockP_normal_i ?_ | refine blockP_ret_i ?_)
    | (with_reducible refine blockP_exit_i ?_; simp only [↓reduceIte, Nat.reduceEqDiff])
    | with_reducible refine lpP_normal_i ?_)
  all_goals (try clear zzr0; try clear Kzzr0)
  all_goals (try clear zzr1; try clear Kzzr1)
  all_goals (try clear zzr2; try clear Kzzr2)
  all_goals (try clear zzr3; try clear Kzzr3)
  all_goals (try clear zzr4; try clear Kzzr4)
  all_goals (try clear zzsr2; try clear Kzzsr2)
  all_goals (try clear zzr5; try clear Kzzr5)
  all_goals (try clear zzr6; try clear Kzzr6)
  all_goals (try clear zzr7; try clear Kzzr7)
  all_goals (try clear zzsr5; try clear Kzzsr5)
  all_goals (try clear zzr8; try clear Kzzr8)
  all_goals clear hV4
  all_goals (try simp only [inR])
  all_goals first
    | omega
    | exact hb
    | exact ⟨w4_lim _ _, w4_lim _ _, w4_lim _ _, w4_lim _ _⟩
    | exact ⟨⟨w4_lim _ _, w4_lim _ _, w4_lim _ _, w4_lim _ _⟩, h0⟩
    | skip
theorem sound_10 : Sound Try.prog 10 .body (norm s10) := by
  refine sound_norm (sound_body Try.func10 (show Try.f10.body = some (code Try.f10) from rfl) (by kernel_rfl) tysOk G10_ok (drawOk_ok (by kernel_rfl) tysOk G10_ok) (by kernel_rfl) fun ds p r hs hp => ?_)
  unfold s10 at hs
  split at hs
  · cases hs; exact ⟨Nat.le_of_ble_eq_true (by kernel_rfl), w10 _ _ _ _ _ _ _ hp⟩
  · cases hs
end Go.Proofs.AMT
