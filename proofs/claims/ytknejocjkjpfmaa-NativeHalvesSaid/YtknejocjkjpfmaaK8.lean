/- Part 8 of the proof: own text (FnatShr, FmathbitsLeadingZeros64, FmathbitsDiv64, Fnatword, Fnatshift, FmathbitsMul64, Fnatlong). -/
import Derived.Test.YtknejocjkjpfmaaK0
import Derived.Test.YtknejocjkjpfmaaK1
import Derived.Test.YtknejocjkjpfmaaK2
import Derived.Test.YtknejocjkjpfmaaK3
import Derived.Test.YtknejocjkjpfmaaK4
import Derived.Test.YtknejocjkjpfmaaK5
import Derived.Test.YtknejocjkjpfmaaK6
import Derived.Test.YtknejocjkjpfmaaK7
set_option linter.all false
set_option maxRecDepth 20000
namespace Go.Proofs.AMT
open Go.AM Go.AM.LN
attribute [local congr] bindO_congr bindS_congr bindG_congr awpOps_congr aOne_congr awp_congr aCond_congr awpD_congr dOne_congr keysB_congr nOne_congr thenP_congr blockP_congr Chk_congr Brk_congr
noncomputable def s49 : CSpec := fun ds => match ds with
  | [.sl .u64 a, .v (.int .i64 n)] => some ((lim a ∧ a.length ≤ 90000000) ∧ 0 ≤ n ∧ n ≤ 63, .many [.fresh .u64 (limbs (val a / 2 ^ n.toNat)), .v (.bool (val a % 2 ^ n.toNat != 0))])
  | _ => none
theorem s49_eq (a : List Int) (n : Int) : norm s49 [.sl .u64 a, .v (.int .i64 n)] = some ((lim a ∧ a.length ≤ 90000000) ∧ 0 ≤ n ∧ n ≤ 63, .many [.fresh .u64 (limbs (val a / 2 ^ n.toNat)), .v (.bool (val a % 2 ^ n.toNat != 0))]) := rfl
theorem s49_nil1  (n : Int) : norm s49 [.v (.slice none 0 0), .v (.int .i64 n)] = some ((lim ([] : List Int) ∧ ([] : List Int).length ≤ 90000000) ∧ 0 ≤ n ∧ n ≤ 63, .many [.fresh .u64 (limbs (val ([] : List Int) / 2 ^ n.toNat)), .v (.bool (val ([] : List Int) % 2 ^ n.toNat != 0))]) := rfl
noncomputable def G49 : Gam := [(43, .body, norm s43), (70, .body, norm sClone), (71, .body, norm s71)]
theorem G49_ok : GamOk Try.prog G49 := gamOk_cons sound_43 (gamOk_cons clone_n (gamOk_cons sound_71 gamOk_nil))
theorem k49_43 : lk G49 43 = some (.body, norm s43) := rfl
theorem k49_70 : lk G49 70 = some (.body, norm sClone) := rfl
theorem k49_71 : lk G49 71 = some (.body, norm s71) := rfl
set_option maxHeartbeats 20000000 in
theorem w49 (a : List Int) (n : Int) (hp : (lim a ∧ a.length ≤ 90000000) ∧ 0 ≤ n ∧ n ≤ 63) : awp ty G49 (code Try.f49) (retP ty Try.f49.results.toList (.many [.fresh .u64 (limbs (val a / 2 ^ n.toNat)), .v (.bool (val a % 2 ^ n.toNat != 0))])) (entry 0 [.sl .u64 a, .v (.int .i64 n)]) [] := by
  unfold code
  simp only [Try.f49, Option.getD_some]
  have za := sz_le a
  have ya := len_limbs_sz hp.1.1
  obtain ⟨s, rfl⟩ := Int.eq_ofNat_of_zero_le (show 0 ≤ n by omega)
  have hd : (s : Int).tdiv 64 = 0 := by rw [Int.tdiv_eq_ediv_of_nonneg (by omega)]; omega
  have hm : (s : Int).tmod 64 = (s : Int) := by rw [Int.tmod_eq_emod_of_nonneg (by omega)]; omega
  have dec0 : decide ((0 : Int) > 0) = false := rfl
  have m1 : min s 64 = s := by omega
  have m2 : (64 - (s : Int)).toNat = 64 - s := by omega
  have m3 : min (64 - s) 64 = 64 - s := by omega
  have p1 : (2 : Int) ^ s < 2 ^ 64 := by exact_mod_cast Nat.pow_lt_pow_right (by omega) (show s < 64 by omega)
  have p2 : (1 : Int) ≤ 2 ^ s := by exact_mod_cast Nat.one_le_two_pow
  have p3 : (2 : Int) ^ 64 = 18446744073709551616 := by decide
  have mk : 1 * (2 : Int) ^ s % 18446744073709551616 = 2 ^ s := by omega
  have mk2 : ((2 : Int) ^ s - 1) % 18446744073709551616 = 2 ^ s - 1 := by omega
  have gone : (AM.bits .and .u64 ((limbs (val a)).getD 0 0) (2 ^ s - 1) == 0) = (val a % 2 ^ s == 0) := by
    rw [and_mask s (lim_get (lim_limbs _)) (by omega), ← val_limbs (val a), mod_word (lim_limbs _) (by omega), val_limbs]
    have h1 := lim_get (lim_limbs (val a)) (i := 0)
    generalize (limbs (val a)).getD 0 0 = x at *
    obtain ⟨y, rfl⟩ := Int.eq_ofNat_of_zero_le h1.1
    rw [Int.toNat_natCast, Bool.eq_iff_iff, beq_iff_eq, beq_iff_eq]
    have : (y : Int) % 2 ^ s = ((y % 2 ^ s : Nat) : Int) := by rw [Int.natCast_emod, Int.natCast_pow]; rfl
    rw [this]
    omega
  clear p1 p2 p3
  rcases Nat.eq_zero_or_pos s with hs0 | hs0
  all_goals first
    | (have g1 : decide ((s : Int) < 1) = false := by simp only [decide_eq_false_iff_not]; omega)
    | (have g1 : decide ((s : Int) < 1) = true := by simp only [decide_eq_true_eq]; omega)
  all_goals first
    | (have g5 : decide ((s : Int) > 0) = true := by simp only [decide_eq_true_eq]; omega)
    | (have g5 : decide ((s : Int) > 0) = false := by simp only [decide_eq_false_iff_not]; omega)
  all_goals repeat' (first
    | ((first
       | (with_reducible refine ops_k ?_; intro X hX)
       | (with_reducible refine opsN_k ?_; intro X hX)
       | (with_reducible show awp _ _ _ _ (keepL _ _) _)
       | (with_reducible refine hX _ _ _ _ ?_; clear hX X)
       | (with_reducible refine opsD_k ?_; intro X hX)
       | with_reducible refine awp_cond_k ?_
       | (with_reducible refine Brk_i ?_ ?_ <;> intro hb <;> (try simp only [hb]) <;> have hq := hb <;> try simp only [decide_eq_true_eq, decide_eq_false_iff_not, gt_iff_lt, ge_iff_le, Int.not_lt, Int.not_le, beq_iff_eq, beq_eq_false_iff_ne, Bool.not_eq_true', Bool.not_eq_false', Bool.and_eq_true, Bool.or_eq_true, Bool.and_eq_false_imp, Bool.or_eq_false_iff, ne_eq, Classical.not_not] at hq)
       | with_reducible refine retP_ret_i ?_
       | with_reducible refine retP_normal_i ?_
       | (with_reducible (show bindG _ _ _ _ _); simp only [hall])) <;> try simp only [Go.AM.S1, Go.AM.S2, Go.AM.S3, Go.AM.S4, Go.AM.S5, Go.AM.S6, Go.AM.S7, Go.AM.S8, Go.AM.S9, Nat.reduceAdd, Nat.reduceMul, Nat.reduceSub, ↓reduceIte, Nat.reduceEqDiff, Nat.reduceLT, Nat.reduceLeDiff, reduceCtorEq, Int.reduceBEq, Int.reduceBNe, Nat.reduceBEq, Int.reduceEq, Int.reduceToNat, Int.reduceLE, Int.reduceLT, Nat.reduceDiv, Int.reduceAdd, Int.reduceSub, Int.reduceMul, Int.reduceNeg, Int.reduceGT, Int.reduceGE, Nat.reduceMod, k49_43, s43_eq, s43_nil1, k49_70, sClone_eq, sClone_nil, k49_71, s71_eq, s71_nil1, ty_3, ty_26, ty_42, take_sz hp.1.1, hd, hm, g1, m1, m2, m3, IntKind.bits, mk, mk2, sz, gone, List.take_length, dec0, g5])
    | (with_reducible refine hX _ _ ?_; clear hX X)
    | (with_reducible refine opsD_nil_i ?_; try clear hall all)
    | (with_reducible refine keysB_i ?_; kernel_rfl)
    | ((with_reducible show clashK _ _ _ = true); kernel_rfl)
    | (with_reducible refine ops_nil_i ?_; try clear hall all)
    | (with_reducible refine opsN_nil_i ?_; try clear hall all)
    | (with_reducible refine hK _ _ ?_; clear hK K)
    | with_reducible refine thenP_normal_i ?_
    | (with_reducible refine zzr18 _ _ ?_; try clear zzr18 Kzzr18)
    | (with_reducible refine zzsr10 _ _ ?_; try clear zzsr10 Kzzsr10)
    | (with_reducible refine zzb1 _ _ ?_; try clear zzb1 Kzzb1)
    | (with_reducible refine zzr15 _ _ ?_; try clear zzr15 Kzzr15)
    | (with_reducible refine zzr14 _ _ ?_; try clear zzr14 Kzzr14)
    | (with_reducible refine zzr13 _ _ ?_; try clear zzr13 Kzzr13)
    | (with_reducible refine zzctmp55 _ _ ?_; try clear zzctmp55 Kzzctmp55)
    | (with_reducible refine zzr12 _ _ ?_; try clear zzr12 Kzzr12)
    | (with_reducible refine zzr11 _ _ ?_; try clear zzr11 Kzzr11)
    | (with_reducible refine zzr10 _ _ ?_; try clear zzr10 Kzzr10)
    | (with_reducible refine zzr9 _ _ ?_; try clear zzr9 Kzzr9)
    | (with_reducible refine zzr8 _ _ ?_; try clear zzr8 Kzzr8)
    | (with_reducible refine zzr7 _ _ ?_; try clear zzr7 Kzzr7)
    | (with_reducible refine zzsr5 _ _ ?_; try clear zzsr5 Kzzsr5)
    | (with_reducible refine zzr6 _ _ ?_; try clear zzr6 Kzzr6)
    | (with_reducible refine zzr5 _ _ ?_; try clear zzr5 Kzzr5)
    | (with_reducible refine zzr4 _ _ ?_; try clear zzr4 Kzzr4)
    | (with_reducible refine zzsr2 _ _ ?_; try clear zzsr2 Kzzsr2)
    | (with_reducible refine zzr3 _ _ ?_; try clear zzr3 Kzzr3)
    | (with_reducible refine zzr2 _ _ ?_; try clear zzr2 Kzzr2)
    | (with_reducible refine zzr1 _ _ ?_; try clear zzr1 Kzzr1)
    | (with_reducible refine zzr0 _ _ ?_; try clear zzr0 Kzzr0)
    | with_reducible refine hJ8 _ _ ?_
    | (with_reducible refine awp_seq_e (a := .region 8 _ _) [(0, .rd .u64 (limbs (val a))), (6, .v (.int .i64 0)), (7, .v (.int .i64 s)), (8, .v (.bool (!(val a % 2 ^ s == 0))))] [] ?_ ?_; rotate_left; intro KJ hJ8)
    | (with_reducible refine awp_lp (σ := Nat × List Int) (fun s1 => s1.1 ≤ (limbs (val a)).length ∧ s1.2.length = (limbs (val a)).length ∧ lim s1.2 ∧ s1.2.drop s1.1 = (limbs (val a)).drop s1.1 ∧ val (s1.2.take s1.1) + 2 ^ (64 * s1.1) * (val ((limbs (val a)).drop s1.1) / 2 ^ s) = val (limbs (val a)) / 2 ^ s) (fun s1 => [(0, .rd .u64 (limbs (val a))), (6, .v (.int .i64 0)), (7, .v (.int .i64 s)), (8, .v (.bool (!(val a % 2 ^ s == 0)))), (9, .ow 784), (53, .v (.int .i64 (limbs (val a)).length)), (54, .v (.int .i64 s1.1))]) (fun s1 => [(784, .ints .u64 s1.2, false)]) (fun s1 => (limbs (val a)).length - s1.1) (0, limbs (val a)) ?_ ?_ (fun s1 hs1 => ?_))
    | (with_reducible refine awp_seq_l (a := .region 18 _ _) [4, 5] ?_; intro Kzzr18 zzr18)
    | (with_reducible refine awp_seq_l (a := .seq (.region 10 _ _) _) [8, 9] ?_; intro Kzzsr10 zzsr10)
    | (with_reducible refine awp_seq_l (a := .block 1 _) [0, 6, 7, 8, 9, 53, 54] ?_; intro Kzzb1 zzb1)
    | (with_reducible refine awp_seq_l (a := .region 15 _ _) [0, 6, 7, 8, 9, 10, 53, 54, 68] ?_; intro Kzzr15 zzr15)
    | (with_reducible refine awp_seq_l (a := .region 14 _ _) [0, 6, 7, 8, 9, 10, 53, 54] ?_; intro Kzzr14 zzr14)
    | (with_reducible refine awp_seq_l (a := .region 13 _ _) [0, 6, 7, 8, 9, 10, 53, 54] ?_; intro Kzzr13 zzr13)
    | (with_reducible refine awp_seq_l (a := .cond (.tmp 55) _ _) [0, 6, 7, 8, 9, 53, 54] ?_; intro Kzzctmp55 zzctmp55)
    | (with_reducible refine awp_seq_l (a := .region 12 _ _) [0, 6, 7, 8, 9, 53, 54, 55] ?_; intro Kzzr12 zzr12)
    | (with_reducible refine awp_seq_l (a := .region 11 _ _) [0, 6, 7, 8, 9, 53, 54] ?_; intro Kzzr11 zzr11)
    | (with_reducible refine awp_seq_l (a := .region 10 _ _) [0, 6, 7, 8, 9, 51] ?_; intro Kzzr10 zzr10)
    | (with_reducible refine awp_seq_l (a := .region 9 _ _) [0, 6, 7, 8, 9] ?_; intro Kzzr9 zzr9)
    | (with_reducible refine awp_seq_l (a := .region 8 _ _) [0, 6, 7, 8] ?_; intro Kzzr8 zzr8)
    | (with_reducible refine awp_seq_l (a := .region 7 _ _) [0, 6, 7] ?_; intro Kzzr7 zzr7)
    | (with_reducible refine awp_seq_l (a := .seq (.region 5 _ _) _) [0, 1, 6] ?_; intro Kzzsr5 zzsr5)
    | (with_reducible refine awp_seq_l (a := .region 6 _ _) [4, 5] ?_; intro Kzzr6 zzr6)
    | (with_reducible refine awp_seq_l (a := .region 5 _ _) [0, 1, 6, 24] ?_; intro Kzzr5 zzr5)
    | (with_reducible refine awp_seq_l (a := .region 4 _ _) [0, 1, 6] ?_; intro Kzzr4 zzr4)
    | (with_reducible refine awp_seq_l (a := .seq (.region 2 _ _) _) [0, 1] ?_; intro Kzzsr2 zzsr2)
    | (with_reducible refine awp_seq_l (a := .region 3 _ _) [4, 5] ?_; intro Kzzr3 zzr3)
    | (with_reducible refine awp_seq_l (a := .region 2 _ _) [0, 1, 16] ?_; intro Kzzr2 zzr2)
    | (with_reducible refine awp_seq_l (a := .region 1 _ _) [0, 1] ?_; intro Kzzr1 zzr1)
    | (with_reducible refine awp_seq_l (a := .region 0 _ _) [0, 1] ?_; intro Kzzr0 zzr0)
    | (with_reducible refine awp_seq_k ?_; intro K hK)
    | (with_reducible refine awp_region_a ?_; intro all hall K hK)
    | (with_reducible refine awp_draw_a (id := 16) ?_ ?_; kernel_rfl; intro all hall K hK)
    | (with_reducible refine awp_draw_n ?_ ?_; kernel_rfl; intro all hall K hK)
    | (with_reducible refine Chk_i ?_ ?_)
    | (with_reducible refine keysC_i ?_; kernel_rfl)
    | (with_reducible first | refine awp_block_i ?_ | refine awp_skip_i ?_ | refine awp_ret_i ?_ | refine awp_exit_i ?_ | refine thenP_ret_i ?_ | refine thenP_exit_i ?_ | refine lpP_ret_i ?_ | refine lpP_exit_i ?_ | refine unrP_succ_i ?_ | refine unrP_ret_i ?_ | refine unrP_exit_i ?_ | refine blockP_normal_i ?_ | refine blockP_ret_i ?_)
    | (with_reducible refine blockP_exit_i ?_; simp only [↓reduceIte, Nat.reduceEqDiff])
    | with_reducible refine lpP_normal_i ?_)
  all_goals (try clear zzr0; try clear Kzzr0)
  all_goals (try clear zzr1; try clear Kzzr1)
  all_goals (try clear zzr2; try clear Kzzr2)
  all_goals (try clear zzr3; try clear Kzzr3)
  all_goals (try clear zzsr2; try clear Kzzsr2)
  all_goals (try clear zzr4; try clear Kzzr4)
  all_goals (try clear zzr5; try clear Kzzr5)
  all_goals (try clear zzr6; try clear Kzzr6)
  all_goals (try clear zzsr5; try clear Kzzsr5)
  all_goals (try clear zzr7; try clear Kzzr7)
  all_goals (try clear zzr8; try clear Kzzr8)
  all_goals (try clear zzr9; try clear Kzzr9)
  all_goals (try clear zzr10; try clear Kzzr10)
  all_goals (try clear zzr11; try clear Kzzr11)
  all_goals (try clear zzr12; try clear Kzzr12)
  all_goals (try clear zzctmp55; try clear Kzzctmp55)
  all_goals (try clear zzr13; try clear Kzzr13)
  all_goals (try clear zzr14; try clear Kzzr14)
  all_goals (try clear zzr15; try clear Kzzr15)
  all_goals (try clear zzb1; try clear Kzzb1)
  all_goals (try clear zzsr10; try clear Kzzsr10)
  all_goals (try clear zzr18; try clear Kzzr18)
  all_goals (try (rcases s1 with ⟨i, o⟩))
  all_goals (try dsimp only at *)
  all_goals (try simp only [inR])
  all_goals (try omega)
  · exact ⟨lim_limbs _, by omega⟩
  · rw [hs0]; simp [Nat.mod_one, val_limbs]
  · have h0 : val a = 0 := len_zero.1 (by omega)
    rw [h0]; simp [limbs_zero]
  · (refine ent_ok [] rfl ?_ ?_ <;> simp only [memLe, slotsLe, AvLe, lk, ↓reduceIte, Nat.reduceEqDiff, Option.isSome_some, and_self, and_true, true_and, reduceCtorEq, List.map_nil, List.map_cons, Option.some.injEq, AV.v.injEq, Value.int.injEq, Value.bool.injEq, AV.rd.injEq, AV.ow.injEq, AV.al.injEq, AV.ref.injEq]) <;> simp [hq]
  · (refine ent_ok [] rfl ?_ ?_ <;> simp only [memLe, slotsLe, AvLe, lk, ↓reduceIte, Nat.reduceEqDiff, Option.isSome_some, and_self, and_true, true_and, reduceCtorEq, List.map_nil, List.map_cons, Option.some.injEq, AV.v.injEq, Value.int.injEq, Value.bool.injEq, AV.rd.injEq, AV.ow.injEq, AV.al.injEq, AV.ref.injEq]) <;> simp [hq]

  · refine ⟨Nat.zero_le _, trivial, lim_limbs _, trivial, ?_⟩
    simp [val]
  · exact Ent.refl _ _
  · have e : (0 + (i : Int) + 1).toNat = i + 1 := by omega
    have h1 := shr_next (s := s) (lim_limbs (val a)) (by omega) hs1.2.1 (by omega) hs1.2.2.1 hs1.2.2.2.1 hs1.2.2.2.2
    have h2 := shr_step (s := s) (o := o) (lim_limbs (val a)) (show i < (limbs (val a)).length by omega) hs1.2.1 (by omega) hs1.2.2.2.2
    rw [e, h1.1]
    exact ⟨(i + 1, _), (by (refine ent_ok [(784, 784)] rfl ?_ ?_ <;> simp only [memLe, slotsLe, AvLe, lk, ↓reduceIte, Nat.reduceEqDiff, Option.isSome_some, and_self, and_true, true_and, reduceCtorEq, List.map_nil, List.map_cons, Option.some.injEq, AV.v.injEq, Value.int.injEq, Value.bool.injEq, AV.rd.injEq, AV.ow.injEq, AV.al.injEq, AV.ref.injEq] <;> omega)), ⟨by dsimp only; omega, by simp [hs1.2.1], lim_set hs1.2.2.1 h1.2.2.1 i, h1.2.2.2, h2⟩, by dsimp only; omega⟩
  · have h1 := shr_next (s := s) (lim_limbs (val a)) (by omega) hs1.2.1 (by omega) hs1.2.2.1 hs1.2.2.2.1 hs1.2.2.2.2
    have h2 := shr_step (s := s) (o := o) (lim_limbs (val a)) (show i < (limbs (val a)).length by omega) hs1.2.1 (by omega) hs1.2.2.2.2
    rw [h1.2.1 (by omega)]
    exact ⟨(i + 1, _), (by (refine ent_ok [(784, 784)] rfl ?_ ?_ <;> simp only [memLe, slotsLe, AvLe, lk, ↓reduceIte, Nat.reduceEqDiff, Option.isSome_some, and_self, and_true, true_and, reduceCtorEq, List.map_nil, List.map_cons, Option.some.injEq, AV.v.injEq, Value.int.injEq, Value.bool.injEq, AV.rd.injEq, AV.ow.injEq, AV.al.injEq, AV.ref.injEq] <;> omega)), ⟨by dsimp only; omega, by simp [hs1.2.1], lim_set hs1.2.2.1 h1.2.2.1 i, h1.2.2.2, h2⟩, by dsimp only; omega⟩
  · have h6 := sz_le o
    omega
  · have hi : i = (limbs (val a)).length := by omega
    subst hi
    have h5 := hs1.2.2.2.2
    rw [List.drop_length, List.take_of_length_le (by omega), val_limbs] at h5
    simp only [val, Nat.zero_div, Nat.mul_zero, Nat.add_zero] at h5
    rw [take_sz hs1.2.2.1, h5]
    all_goals (first | rfl | exact ⟨rfl, rfl⟩)
theorem sound_49 : Sound Try.prog 49 .body (norm s49) := by
  refine sound_norm (sound_body Try.func49 (show Try.f49.body = some (code Try.f49) from rfl) (by kernel_rfl) tysOk G49_ok (drawOk_ok (by kernel_rfl) tysOk G49_ok) (by kernel_rfl) fun ds p r hs hp => ?_)
  unfold s49 at hs
  split at hs
  · cases hs; exact ⟨Nat.le_of_ble_eq_true (by kernel_rfl), w49 _ _ hp⟩
  · cases hs
end Go.Proofs.AMT
set_option maxRecDepth 20000
namespace Go.Proofs.AMT
open Go.AM Go.AM.LN
attribute [local congr] bindO_congr bindS_congr bindG_congr awpOps_congr aOne_congr awp_congr aCond_congr awpD_congr dOne_congr keysB_congr nOne_congr thenP_congr blockP_congr Chk_congr Brk_congr
noncomputable def s104 : CSpec := fun ds => match ds with
  | [.v (.int .u64 x)] => some (0 ≤ x ∧ x < 18446744073709551616, .one (.v (.int .i64 (64 - blen x.toNat))))
  | _ => none
theorem s104_eq (x : Int) : norm s104 [.v (.int .u64 x)] = some (0 ≤ x ∧ x < 18446744073709551616, .one (.v (.int .i64 (64 - blen x.toNat)))) := rfl
noncomputable def G104 : Gam := [(67, .body, norm s67)]
theorem G104_ok : GamOk Try.prog G104 := gamOk_cons sound_67 gamOk_nil
theorem k104_67 : lk G104 67 = some (.body, norm s67) := rfl
set_option maxHeartbeats 20000000 in
theorem w104 (x : Int) (hp : 0 ≤ x ∧ x < 18446744073709551616) : awp ty G104 (code Try.f104) (retP ty Try.f104.results.toList (.one (.v (.int .i64 (64 - blen x.toNat))))) (entry 0 [.v (.int .u64 x)]) [] := by
  unfold code
  simp only [Try.f104, Option.getD_some]
  all_goals repeat' (first
    | ((first
       | (with_reducible refine ops_k ?_; intro X hX)
       | (with_reducible refine opsN_k ?_; intro X hX)
       | (with_reducible show awp _ _ _ _ (keepL _ _) _)
       | with_reducible refine awp_cond_k ?_
       | (with_reducible refine Brk_i ?_ ?_ <;> intro hb <;> (try simp only [hb]) <;> have hq := hb <;> try simp only [decide_eq_true_eq, decide_eq_false_iff_not, gt_iff_lt, ge_iff_le, Int.not_lt, Int.not_le, beq_iff_eq, beq_eq_false_iff_ne, Bool.not_eq_true', Bool.not_eq_false', Bool.and_eq_true, Bool.or_eq_true, Bool.and_eq_false_imp, Bool.or_eq_false_iff, ne_eq, Classical.not_not] at hq)
       | with_reducible refine retP_ret_i ?_
       | with_reducible refine retP_normal_i ?_
       | (with_reducible (show bindG _ _ _ _ _); simp only [hall])) <;> try simp only [Go.AM.S1, Go.AM.S2, Go.AM.S3, Go.AM.S4, Go.AM.S5, Go.AM.S6, Go.AM.S7, Go.AM.S8, Go.AM.S9, Nat.reduceAdd, Nat.reduceMul, Nat.reduceSub, ↓reduceIte, Nat.reduceEqDiff, Nat.reduceLT, Nat.reduceLeDiff, reduceCtorEq, Int.reduceBEq, Int.reduceBNe, Nat.reduceBEq, Int.reduceEq, Int.reduceToNat, Int.reduceLE, Int.reduceLT, Nat.reduceDiv, Int.reduceAdd, Int.reduceSub, Int.reduceMul, Int.reduceNeg, Int.reduceGT, Int.reduceGE, Nat.reduceMod, k104_67, s67_eq, ty_3, ty_26])
    | (with_reducible refine hX _ _ ?_; clear hX X)
    | (with_reducible refine ops_nil_i ?_; try clear hall all)
    | (with_reducible refine opsN_nil_i ?_; try clear hall all)
    | (with_reducible refine hK _ _ ?_; clear hK K)
    | with_reducible refine thenP_normal_i ?_
    | (with_reducible refine zzr1 _ _ ?_; try clear zzr1 Kzzr1)
    | (with_reducible refine zzr0 _ _ ?_; try clear zzr0 Kzzr0)
    | (with_reducible refine awp_seq_l (a := .region 1 _ _) [2] ?_; intro Kzzr1 zzr1)
    | (with_reducible refine awp_seq_l (a := .region 0 _ _) [0] ?_; intro Kzzr0 zzr0)
    | (with_reducible refine awp_seq_k ?_; intro K hK)
    | (with_reducible refine awp_region_a ?_; intro all hall K hK)
    | (with_reducible refine awp_draw_n ?_ ?_; kernel_rfl; intro all hall K hK)
    | (with_reducible refine Chk_i ?_ ?_)
    | (with_reducible refine keysC_i ?_; kernel_rfl)
    | (with_reducible first | refine awp_block_i ?_ | refine awp_skip_i ?_ | refine awp_ret_i ?_ | refine awp_exit_i ?_ | refine thenP_ret_i ?_ | refine thenP_exit_i ?_ | refine lpP_ret_i ?_ | refine lpP_exit_i ?_ | refine unrP_succ_i ?_ | refine unrP_ret_i ?_ | refine unrP_exit_i ?_ | refine blockP_normal_i ?_ | refine blockP_ret_i ?_)
    | (with_reducible refine blockP_exit_i ?_; simp only [↓reduceIte, Nat.reduceEqDiff])
    | with_reducible refine lpP_normal_i ?_)
  all_goals (try clear zzr0; try clear Kzzr0)
  all_goals (try clear zzr1; try clear Kzzr1)
  all_goals (try simp only [inR])
  all_goals (have h1 : blen x.toNat ≤ 64 := blen_lt.2 (by omega))
  all_goals omega
theorem sound_104 : Sound Try.prog 104 .body (norm s104) := by
  refine sound_norm (sound_body Try.func104 (show Try.f104.body = some (code Try.f104) from rfl) (by kernel_rfl) tysOk G104_ok (drawOk_ok (by kernel_rfl) tysOk G104_ok) (by kernel_rfl) fun ds p r hs hp => ?_)
  unfold s104 at hs
  split at hs
  · cases hs; exact ⟨Nat.le_of_ble_eq_true (by kernel_rfl), w104 _ hp⟩
  · cases hs
end Go.Proofs.AMT
set_option maxRecDepth 20000
namespace Go.Proofs.AMT
open Go.AM Go.AM.LN
attribute [local congr] bindO_congr bindS_congr bindG_congr awpOps_congr aOne_congr awp_congr aCond_congr awpD_congr dOne_congr keysB_congr nOne_congr thenP_congr blockP_congr Chk_congr Brk_congr
noncomputable def s107 : CSpec := fun ds => match ds with
  | [.v (.int .u64 h), .v (.int .u64 l), .v (.int .u64 y)] => some ((0 ≤ h ∧ h < y) ∧ (0 ≤ l ∧ l < 18446744073709551616) ∧ 0 < y ∧ y < 18446744073709551616, .many [.v (.int .u64 ((h.toNat * 18446744073709551616 + l.toNat) / y.toNat : Nat)), .v (.int .u64 ((h.toNat * 18446744073709551616 + l.toNat) % y.toNat : Nat))])
  | _ => none
theorem s107_eq (h : Int) (l : Int) (y : Int) : norm s107 [.v (.int .u64 h), .v (.int .u64 l), .v (.int .u64 y)] = some ((0 ≤ h ∧ h < y) ∧ (0 ≤ l ∧ l < 18446744073709551616) ∧ 0 < y ∧ y < 18446744073709551616, .many [.v (.int .u64 ((h.toNat * 18446744073709551616 + l.toNat) / y.toNat : Nat)), .v (.int .u64 ((h.toNat * 18446744073709551616 + l.toNat) % y.toNat : Nat))]) := rfl
noncomputable def G107 : Gam := [(104, .body, norm s104)]
theorem G107_ok : GamOk Try.prog G107 := gamOk_cons sound_104 gamOk_nil
theorem k107_104 : lk G107 104 = some (.body, norm s104) := rfl
set_option maxHeartbeats 20000000 in
theorem w107 (h : Int) (l : Int) (y : Int) (hp : (0 ≤ h ∧ h < y) ∧ (0 ≤ l ∧ l < 18446744073709551616) ∧ 0 < y ∧ y < 18446744073709551616) : awp ty G107 (code Try.f107) (retP ty Try.f107.results.toList (.many [.v (.int .u64 ((h.toNat * 18446744073709551616 + l.toNat) / y.toNat : Nat)), .v (.int .u64 ((h.toNat * 18446744073709551616 + l.toNat) % y.toNat : Nat))])) (entry 0 [.v (.int .u64 h), .v (.int .u64 l), .v (.int .u64 y)]) [] := by
  unfold code
  simp only [Try.f107, Option.getD_some]
  obtain ⟨h, rfl⟩ := Int.eq_ofNat_of_zero_le hp.1.1
  obtain ⟨l, rfl⟩ := Int.eq_ofNat_of_zero_le hp.2.1.1
  obtain ⟨y, rfl⟩ := Int.eq_ofNat_of_zero_le (show 0 ≤ y by omega)
  have g1 : ((y : Int) == 0) = false := by simp only [beq_eq_false_iff_ne, ne_eq]; omega
  have g2 : decide ((y : Int) ≤ (h : Int)) = false := by simp only [decide_eq_false_iff_not]; omega
  obtain ⟨s, hse⟩ : ∃ s, 64 - blen y = s := ⟨_, rfl⟩
  obtain ⟨Y, y1, y0, u, n1, n0, Q1, R1, Q0, R0, D⟩ := d64_mk (h := h) (l := l) (y := y) (s := s) (by omega) (by omega) (by omega) (by omega) hse
  have hbl : blen y ≤ 64 := blen_lt.2 (by omega)
  have c1 : (64 - (blen y : Int)) % 18446744073709551616 = (s : Int) := by omega
  have hs63 := D.hs
  have m1 : min s 64 = s := by omega
  have m2 : ((64 - (s : Int)) % 18446744073709551616).toNat = 64 - s := by omega
  have m3 : min (64 - s) 64 = 64 - s := by omega
  have e2 : (y : Int) * 2 ^ s % 18446744073709551616 = (Y : Int) := by rw [castShl, D.hY, Nat.mod_eq_of_lt D.hYl.2]
  have e9 : (Y : Int) / 4294967296 = (y1 : Int) := by have := D.hy1; omega
  have e10 : AM.bits .and .u64 (Y : Int) 4294967295 = (y0 : Int) := by rw [and32 D.hYl.2, D.hy0]
  have e11 : AM.bits .or .u64 ((h : Int) * 2 ^ s % 18446744073709551616) ((l : Int) / 2 ^ (64 - s)) = (u : Int) := by
    rw [shl_word ⟨by omega, by omega⟩ ⟨by omega, by omega⟩ (by omega), Int.toNat_natCast, Int.toNat_natCast, D.hu]
  obtain ⟨w, hw⟩ : ∃ w, l * 2 ^ s % 18446744073709551616 = w := ⟨_, rfl⟩
  have hwl : w < 18446744073709551616 := by rw [← hw]; exact Nat.mod_lt _ (Nat.lt_of_lt_of_eq (Nat.two_pow_pos 64) rfl)
  have e12 : (l : Int) * 2 ^ s % 18446744073709551616 = (w : Int) := by rw [castShl, hw]
  have e13 : (w : Int) / 4294967296 = (n1 : Int) := by have := D.n1e; rw [hw] at this; omega
  have e14 : AM.bits .and .u64 (w : Int) 4294967295 = (n0 : Int) := by have := D.n0e; rw [hw] at this; rw [and32 hwl, this]
  have y1p : ((y1 : Int) == 0) = false := by have := D.y1l; simp only [beq_eq_false_iff_ne, ne_eq]; omega
  have ul := D.hul
  have Yl := D.hYl
  have y1l := D.y1l
  have y0l := D.y0l
  have n1l := D.n1l
  have n0l := D.n0l
  have R1e := D.R1e
  have R1l := D.R1l
  have R0e := D.R0e
  have R0l := D.R0l
  have Q1l := D.Q1l
  have Q0l := D.Q0l
  have Ye := D.Ye
  obtain ⟨i1, i2, i3, i4⟩ := kn_init (y1 := y1) (y0 := y0) (u := u) (n := n1) y1l.1 y0l n1l (by omega)
  rw [D.Q1e] at i1
  obtain ⟨j1, j2, j3, j4⟩ := kn_init (y1 := y1) (y0 := y0) (u := R1) (n := n0) y1l.1 y0l n0l (by omega)
  rw [D.Q0e] at j1
  have t1 : (u : Int).tdiv (y1 : Int) = ((u / y1 : Nat) : Int) := by rw [Int.tdiv_eq_ediv_of_nonneg (by omega)]; rfl
  have t2 : (R1 : Int).tdiv (y1 : Int) = ((R1 / y1 : Nat) : Int) := by rw [Int.tdiv_eq_ediv_of_nonneg (by omega)]; rfl
  have lt1 : (l : Int).tdiv (y : Int) = ((l / y : Nat) : Int) := by rw [Int.tdiv_eq_ediv_of_nonneg (by omega)]; rfl
  have lt2 : (l : Int).tmod (y : Int) = ((l % y : Nat) : Int) := by rw [Int.tmod_eq_emod_of_nonneg (by omega)]; rfl
  have quo := D.quo
  have rem := D.rem
  have kQ1 : ∀ {q r : Nat}, (q * y0 ≤ 4294967296 * r + n1 ∨ (q ≤ 4294967296 ∧ 4294967296 ≤ r)) → u = q * y1 + r → Q1 ≤ q → Q1 = q := fun hh he hq => by
    rcases hh with hh | ⟨h1, h2⟩
    · have := kn_fin y1l.1 he hh (by rw [D.Q1e]; exact hq); rw [D.Q1e] at this; exact this
    · have := kn_brk (n := n1) y1l.1 y0l he h1 h2 (by rw [D.Q1e]; exact hq); rw [D.Q1e] at this; exact this
  have kQ0 : ∀ {q r : Nat}, (q * y0 ≤ 4294967296 * r + n0 ∨ (q ≤ 4294967296 ∧ 4294967296 ≤ r)) → R1 = q * y1 + r → Q0 ≤ q → Q0 = q := fun hh he hq => by
    rcases hh with hh | ⟨h1, h2⟩
    · have := kn_fin y1l.1 he hh (by rw [D.Q0e]; exact hq); rw [D.Q0e] at this; exact this
    · have := kn_brk (n := n0) y1l.1 y0l he h1 h2 (by rw [D.Q0e]; exact hq); rw [D.Q0e] at this; exact this
  have kD1 : ∀ {q r : Nat}, (4294967296 ≤ q ∨ 4294967296 * r + n1 < q * y0) → u = q * y1 + r → Q1 ≤ q → Q1 ≤ q - 1 ∧ 1 ≤ q ∧ u = (q - 1) * y1 + (r + y1) := fun hh he hq => by
    have := kn_dec y1l.1 y0l n1l (by omega) he hh (by rw [D.Q1e]; exact hq); rw [D.Q1e] at this; exact this
  have kD0 : ∀ {q r : Nat}, (4294967296 ≤ q ∨ 4294967296 * r + n0 < q * y0) → R1 = q * y1 + r → Q0 ≤ q → Q0 ≤ q - 1 ∧ 1 ≤ q ∧ R1 = (q - 1) * y1 + (r + y1) := fun hh he hq => by
    have := kn_dec y1l.1 y0l n0l (by omega) he hh (by rw [D.Q0e]; exact hq); rw [D.Q0e] at this; exact this
  have i3' : (u : Int) = ((u / y1 : Nat) : Int) * (y1 : Int) + ((u % y1 : Nat) : Int) := by exact_mod_cast i3
  have j3' : (R1 : Int) = ((R1 / y1 : Nat) : Int) * (y1 : Int) + ((R1 % y1 : Nat) : Int) := by exact_mod_cast j3
  have R1e' : (u : Int) * 4294967296 + (n1 : Int) = (Q1 : Int) * (Y : Int) + (R1 : Int) := by omega
  have R0e' : (R1 : Int) * 4294967296 + (n0 : Int) = (Q0 : Int) * (Y : Int) + (R0 : Int) := by omega
  have e16 : ((u : Int) - ((u / y1 : Nat) : Int) * (y1 : Int) % 18446744073709551616) % 18446744073709551616 = ((u % y1 : Nat) : Int) := by omega
  have e17 : (((u : Int) * 4294967296 % 18446744073709551616 + (n1 : Int)) % 18446744073709551616 - (Q1 : Int) * (Y : Int) % 18446744073709551616) % 18446744073709551616 = (R1 : Int) := by omega
  have e19 : ((R1 : Int) - ((R1 / y1 : Nat) : Int) * (y1 : Int) % 18446744073709551616) % 18446744073709551616 = ((R1 % y1 : Nat) : Int) := by omega
  have e6 : ((Q1 : Int) * 4294967296 % 18446744073709551616 + (Q0 : Int)) % 18446744073709551616 = (((h * 18446744073709551616 + l) / y : Nat) : Int) := by rw [← quo]; omega
  have e7a : (((R1 : Int) * 4294967296 % 18446744073709551616 + (n0 : Int)) % 18446744073709551616 - (Q0 : Int) * (Y : Int) % 18446744073709551616) % 18446744073709551616 = (R0 : Int) := by omega
  have e7 : (R0 : Int) / 2 ^ s = (((h * 18446744073709551616 + l) % y : Nat) : Int) := by rw [← rem, castShr]
  clear D R1e R0e i3' j3' R1e' R0e' quo rem
  all_goals repeat' (first
    | ((first
       | (with_reducible refine ops_k ?_; intro X hX)
       | (with_reducible refine opsN_k ?_; intro X hX)
       | (with_reducible show awp _ _ _ _ (keepL _ _) _)
       | with_reducible refine awp_cond_k ?_
       | (with_reducible refine Brk_i ?_ ?_ <;> intro hb <;> (try simp only [hb]) <;> have hq := hb <;> try simp only [decide_eq_true_eq, decide_eq_false_iff_not, gt_iff_lt, ge_iff_le, Int.not_lt, Int.not_le, beq_iff_eq, beq_eq_false_iff_ne, Bool.not_eq_true', Bool.not_eq_false', Bool.and_eq_true, Bool.or_eq_true, Bool.and_eq_false_imp, Bool.or_eq_false_iff, ne_eq, Classical.not_not] at hq)
       | with_reducible refine retP_ret_i ?_
       | with_reducible refine retP_normal_i ?_
       | (with_reducible (show bindG _ _ _ _ _); simp only [hall])) <;> try simp only [Go.AM.S1, Go.AM.S2, Go.AM.S3, Go.AM.S4, Go.AM.S5, Go.AM.S6, Go.AM.S7, Go.AM.S8, Go.AM.S9, Nat.reduceAdd, Nat.reduceMul, Nat.reduceSub, ↓reduceIte, Nat.reduceEqDiff, Nat.reduceLT, Nat.reduceLeDiff, reduceCtorEq, Int.reduceBEq, Int.reduceBNe, Nat.reduceBEq, Int.reduceEq, Int.reduceToNat, Int.reduceLE, Int.reduceLT, Nat.reduceDiv, Int.reduceAdd, Int.reduceSub, Int.reduceMul, Int.reduceNeg, Int.reduceGT, Int.reduceGE, Nat.reduceMod, k107_104, s104_eq, ty_3, ty_26, ty_72, g1, g2, c1, IntKind.bits, m1, m2, m3, minLit, Int.reducePow, e2, e9, e10, e11, e12, e13, e14, y1p, t1, t2, lt1, lt2, e16, e17, e19, e6, e7a, e7])
    | (with_reducible refine hX _ _ ?_; clear hX X)
    | (with_reducible refine ops_nil_i ?_; try clear hall all)
    | (with_reducible refine opsN_nil_i ?_; try clear hall all)
    | (with_reducible refine hK _ _ ?_; clear hK K)
    | with_reducible refine thenP_normal_i ?_
    | (with_reducible refine zzr28 _ _ ?_; try clear zzr28 Kzzr28)
    | (with_reducible refine zzb2 _ _ ?_; try clear zzb2 Kzzb2)
    | (with_reducible refine zzr27 _ _ ?_; try clear zzr27 Kzzr27)
    | (with_reducible refine zzr26 _ _ ?_; try clear zzr26 Kzzr26)
    | (with_reducible refine zzr25 _ _ ?_; try clear zzr25 Kzzr25)
    | (with_reducible refine zzsr24 _ _ ?_; try clear zzsr24 Kzzsr24)
    | (with_reducible refine zzr24 _ _ ?_; try clear zzr24 Kzzr24)
    | (with_reducible refine zzr23 _ _ ?_; try clear zzr23 Kzzr23)
    | (with_reducible refine zzr22 _ _ ?_; try clear zzr22 Kzzr22)
    | (with_reducible refine zzr21 _ _ ?_; try clear zzr21 Kzzr21)
    | (with_reducible refine zzb0 _ _ ?_; try clear zzb0 Kzzb0)
    | (with_reducible refine zzr20 _ _ ?_; try clear zzr20 Kzzr20)
    | (with_reducible refine zzr19 _ _ ?_; try clear zzr19 Kzzr19)
    | (with_reducible refine zzr18 _ _ ?_; try clear zzr18 Kzzr18)
    | (with_reducible refine zzsr17 _ _ ?_; try clear zzsr17 Kzzsr17)
    | (with_reducible refine zzr17 _ _ ?_; try clear zzr17 Kzzr17)
    | (with_reducible refine zzr16 _ _ ?_; try clear zzr16 Kzzr16)
    | (with_reducible refine zzr15 _ _ ?_; try clear zzr15 Kzzr15)
    | (with_reducible refine zzr14 _ _ ?_; try clear zzr14 Kzzr14)
    | (with_reducible refine zzr13 _ _ ?_; try clear zzr13 Kzzr13)
    | (with_reducible refine zzr12 _ _ ?_; try clear zzr12 Kzzr12)
    | (with_reducible refine zzr11 _ _ ?_; try clear zzr11 Kzzr11)
    | (with_reducible refine zzr10 _ _ ?_; try clear zzr10 Kzzr10)
    | (with_reducible refine zzr9 _ _ ?_; try clear zzr9 Kzzr9)
    | (with_reducible refine zzr8 _ _ ?_; try clear zzr8 Kzzr8)
    | (with_reducible refine zzr7 _ _ ?_; try clear zzr7 Kzzr7)
    | (with_reducible refine zzsr5 _ _ ?_; try clear zzsr5 Kzzsr5)
    | (with_reducible refine zzr6 _ _ ?_; try clear zzr6 Kzzr6)
    | (with_reducible refine zzr5 _ _ ?_; try clear zzr5 Kzzr5)
    | (with_reducible refine zzsr3 _ _ ?_; try clear zzsr3 Kzzsr3)
    | (with_reducible refine zzr3 _ _ ?_; try clear zzr3 Kzzr3)
    | (with_reducible refine zzsr1 _ _ ?_; try clear zzsr1 Kzzsr1)
    | (with_reducible refine zzr1 _ _ ?_; try clear zzr1 Kzzr1)
    | (with_reducible refine zzr0 _ _ ?_; try clear zzr0 Kzzr0)
    | with_reducible refine hJ0 _ _ ?_
    | (with_reducible refine awp_seq_e (a := .block 0 _) [(2, .v (.int .u64 Y)), (8, .v (.int .u64 s)), (9, .v (.int .u64 y1)), (10, .v (.int .u64 y0)), (11, .v (.int .u64 u)), (13, .v (.int .u64 n1)), (14, .v (.int .u64 n0)), (15, .v (.int .u64 Q1))] [] ?_ ?_; rotate_left; intro KJ hJ0)
    | with_reducible refine hJ2 _ _ ?_
    | (with_reducible refine awp_seq_e (a := .block 2 _) [(2, .v (.int .u64 Y)), (8, .v (.int .u64 s)), (14, .v (.int .u64 n0)), (15, .v (.int .u64 Q1)), (17, .v (.int .u64 R1)), (18, .v (.int .u64 Q0))] [] ?_ ?_; rotate_left; intro KJ hJ2)
    | (with_reducible refine awp_lp (c := .seq (.seq (.region 17 _ _) _) _) (σ := Nat × Nat) (fun s => u = s.1 * y1 + s.2 ∧ Q1 ≤ s.1 ∧ s.1 ≤ 4294967297 ∧ s.2 < 4294967296) (fun z => [(2, .v (.int .u64 Y)), (8, .v (.int .u64 s)), (9, .v (.int .u64 y1)), (10, .v (.int .u64 y0)), (11, .v (.int .u64 u)), (13, .v (.int .u64 n1)), (14, .v (.int .u64 n0)), (15, .v (.int .u64 z.1)), (16, .v (.int .u64 z.2))]) (fun _ => []) (fun z => z.1) (u / y1, u % y1) ?_ ?_ (fun z hz => ?_))
    | (with_reducible refine awp_lp (c := .seq (.seq (.region 24 _ _) _) _) (σ := Nat × Nat) (fun s => R1 = s.1 * y1 + s.2 ∧ Q0 ≤ s.1 ∧ s.1 ≤ 4294967297 ∧ s.2 < 4294967296) (fun z => [(2, .v (.int .u64 Y)), (8, .v (.int .u64 s)), (9, .v (.int .u64 y1)), (10, .v (.int .u64 y0)), (14, .v (.int .u64 n0)), (15, .v (.int .u64 Q1)), (17, .v (.int .u64 R1)), (18, .v (.int .u64 z.1)), (16, .v (.int .u64 z.2))]) (fun _ => []) (fun z => z.1) (R1 / y1, R1 % y1) ?_ ?_ (fun z hz => ?_))
    | (with_reducible refine awp_seq_l (a := .region 28 _ _) [6, 7] ?_; intro Kzzr28 zzr28)
    | (with_reducible refine awp_seq_l (a := .block 2 _) [2, 8, 14, 15, 17, 18] ?_; intro Kzzb2 zzb2)
    | (with_reducible refine awp_seq_l (a := .region 27 _ _) [2, 8, 9, 10, 14, 15, 16, 17, 18, 120] ?_; intro Kzzr27 zzr27)
    | (with_reducible refine awp_seq_l (a := .region 26 _ _) [2, 8, 9, 10, 14, 15, 16, 17, 18] ?_; intro Kzzr26 zzr26)
    | (with_reducible refine awp_seq_l (a := .region 25 _ _) [2, 8, 9, 10, 14, 15, 16, 17, 18] ?_; intro Kzzr25 zzr25)
    | (with_reducible refine awp_seq_l (a := .seq (.region 24 _ _) _) [2, 8, 9, 10, 14, 15, 16, 17, 18] ?_; intro Kzzsr24 zzsr24)
    | (with_reducible refine awp_seq_l (a := .region 24 _ _) [2, 8, 9, 10, 14, 15, 16, 17, 18, 113] ?_; intro Kzzr24 zzr24)
    | (with_reducible refine awp_seq_l (a := .region 23 _ _) [2, 8, 9, 10, 14, 15, 16, 17, 18] ?_; intro Kzzr23 zzr23)
    | (with_reducible refine awp_seq_l (a := .region 22 _ _) [2, 8, 9, 10, 14, 15, 17, 18] ?_; intro Kzzr22 zzr22)
    | (with_reducible refine awp_seq_l (a := .region 21 _ _) [2, 8, 9, 10, 14, 15, 17] ?_; intro Kzzr21 zzr21)
    | (with_reducible refine awp_seq_l (a := .block 0 _) [2, 8, 9, 10, 11, 13, 14, 15] ?_; intro Kzzb0 zzb0)
    | (with_reducible refine awp_seq_l (a := .region 20 _ _) [2, 8, 9, 10, 11, 13, 14, 15, 16, 85] ?_; intro Kzzr20 zzr20)
    | (with_reducible refine awp_seq_l (a := .region 19 _ _) [2, 8, 9, 10, 11, 13, 14, 15, 16] ?_; intro Kzzr19 zzr19)
    | (with_reducible refine awp_seq_l (a := .region 18 _ _) [2, 8, 9, 10, 11, 13, 14, 15, 16] ?_; intro Kzzr18 zzr18)
    | (with_reducible refine awp_seq_l (a := .seq (.region 17 _ _) _) [2, 8, 9, 10, 11, 13, 14, 15, 16] ?_; intro Kzzsr17 zzsr17)
    | (with_reducible refine awp_seq_l (a := .region 17 _ _) [2, 8, 9, 10, 11, 13, 14, 15, 16, 78] ?_; intro Kzzr17 zzr17)
    | (with_reducible refine awp_seq_l (a := .region 16 _ _) [2, 8, 9, 10, 11, 13, 14, 15, 16] ?_; intro Kzzr16 zzr16)
    | (with_reducible refine awp_seq_l (a := .region 15 _ _) [2, 8, 9, 10, 11, 13, 14, 15] ?_; intro Kzzr15 zzr15)
    | (with_reducible refine awp_seq_l (a := .region 14 _ _) [2, 8, 9, 10, 11, 13, 14] ?_; intro Kzzr14 zzr14)
    | (with_reducible refine awp_seq_l (a := .region 13 _ _) [2, 8, 9, 10, 11, 12, 13] ?_; intro Kzzr13 zzr13)
    | (with_reducible refine awp_seq_l (a := .region 12 _ _) [2, 8, 9, 10, 11, 12] ?_; intro Kzzr12 zzr12)
    | (with_reducible refine awp_seq_l (a := .region 11 _ _) [1, 2, 8, 9, 10, 11] ?_; intro Kzzr11 zzr11)
    | (with_reducible refine awp_seq_l (a := .region 10 _ _) [0, 1, 2, 8, 9, 10] ?_; intro Kzzr10 zzr10)
    | (with_reducible refine awp_seq_l (a := .region 9 _ _) [0, 1, 2, 8, 9] ?_; intro Kzzr9 zzr9)
    | (with_reducible refine awp_seq_l (a := .region 8 _ _) [0, 1, 2, 8] ?_; intro Kzzr8 zzr8)
    | (with_reducible refine awp_seq_l (a := .region 7 _ _) [0, 1, 2, 8] ?_; intro Kzzr7 zzr7)
    | (with_reducible refine awp_seq_l (a := .seq (.region 5 _ _) _) [0, 1, 2] ?_; intro Kzzsr5 zzsr5)
    | (with_reducible refine awp_seq_l (a := .region 6 _ _) [6, 7] ?_; intro Kzzr6 zzr6)
    | (with_reducible refine awp_seq_l (a := .region 5 _ _) [0, 1, 2, 27] ?_; intro Kzzr5 zzr5)
    | (with_reducible refine awp_seq_l (a := .seq (.region 3 _ _) _) [0, 1, 2] ?_; intro Kzzsr3 zzsr3)
    | (with_reducible refine awp_seq_l (a := .region 3 _ _) [0, 1, 2, 24] ?_; intro Kzzr3 zzr3)
    | (with_reducible refine awp_seq_l (a := .seq (.region 1 _ _) _) [0, 1, 2] ?_; intro Kzzsr1 zzsr1)
    | (with_reducible refine awp_seq_l (a := .region 1 _ _) [0, 1, 2, 20] ?_; intro Kzzr1 zzr1)
    | (with_reducible refine awp_seq_l (a := .region 0 _ _) [0, 1, 2] ?_; intro Kzzr0 zzr0)
    | (with_reducible refine awp_seq_k ?_; intro K hK)
    | (with_reducible refine awp_region_a ?_; intro all hall K hK)
    | (with_reducible refine awp_draw_n ?_ ?_; kernel_rfl; intro all hall K hK)
    | (with_reducible refine Chk_i ?_ ?_)
    | (with_reducible refine keysC_i ?_; kernel_rfl)
    | (with_reducible first | refine awp_block_i ?_ | refine awp_skip_i ?_ | refine awp_ret_i ?_ | refine awp_exit_i ?_ | refine thenP_ret_i ?_ | refine thenP_exit_i ?_ | refine lpP_ret_i ?_ | refine lpP_exit_i ?_ | refine unrP_succ_i ?_ | refine unrP_ret_i ?_ | refine unrP_exit_i ?_ | refine blockP_normal_i ?_ | refine blockP_ret_i ?_)
    | (with_reducible refine blockP_exit_i ?_; simp only [↓reduceIte, Nat.reduceEqDiff])
    | with_reducible refine lpP_normal_i ?_)
  all_goals (try clear zzr0; try clear Kzzr0)
  all_goals (try clear zzr1; try clear Kzzr1)
  all_goals (try clear zzsr1; try clear Kzzsr1)
  all_goals (try clear zzr3; try clear Kzzr3)
  all_goals (try clear zzsr3; try clear Kzzsr3)
  all_goals (try clear zzr5; try clear Kzzr5)
  all_goals (try clear zzr6; try clear Kzzr6)
  all_goals (try clear zzsr5; try clear Kzzsr5)
  all_goals (try clear zzr7; try clear Kzzr7)
  all_goals (try clear zzr8; try clear Kzzr8)
  all_goals (try clear zzr9; try clear Kzzr9)
  all_goals (try clear zzr10; try clear Kzzr10)
  all_goals (try clear zzr11; try clear Kzzr11)
  all_goals (try clear zzr12; try clear Kzzr12)
  all_goals (try clear zzr13; try clear Kzzr13)
  all_goals (try clear zzr14; try clear Kzzr14)
  all_goals (try clear zzr15; try clear Kzzr15)
  all_goals (try clear zzr16; try clear Kzzr16)
  all_goals (try clear zzr17; try clear Kzzr17)
  all_goals (try clear zzsr17; try clear Kzzsr17)
  all_goals (try clear zzr18; try clear Kzzr18)
  all_goals (try clear zzr19; try clear Kzzr19)
  all_goals (try clear zzr20; try clear Kzzr20)
  all_goals (try clear zzb0; try clear Kzzb0)
  all_goals (try clear zzr21; try clear Kzzr21)
  all_goals (try clear zzr22; try clear Kzzr22)
  all_goals (try clear zzr23; try clear Kzzr23)
  all_goals (try clear zzr24; try clear Kzzr24)
  all_goals (try clear zzsr24; try clear Kzzsr24)
  all_goals (try clear zzr25; try clear Kzzr25)
  all_goals (try clear zzr26; try clear Kzzr26)
  all_goals (try clear zzr27; try clear Kzzr27)
  all_goals (try clear zzb2; try clear Kzzb2)
  all_goals (try clear zzr28; try clear Kzzr28)
  all_goals clear e17 e6 e7 e16 e19 e7a e2 e9 e10 e11 e12 e13 e14 y1p t1 t2 lt1 lt2 c1 m1 m2 m3 g1 g2
  all_goals (try simp only [inR])
  all_goals first
    | exact Ent.refl _ _
    | exact ⟨i3, i1, i2, by omega⟩
    | exact ⟨j3, j1, j2, by omega⟩
    | (rcases z with ⟨q, r⟩
       dsimp only at *
       have kp := kn_prod y0l hz.2.2.1
       obtain ⟨d1, d2, d3⟩ := kD1 (q := q) (r := r) (by first | (left; omega) | (right; omega)) hz.1 hz.2.1
       first
         | (have kq := kQ1 (q := q - 1) (r := r + y1) (.inr ⟨by omega, by omega⟩) d3 d1
            (refine ent_ok [] rfl ?_ ?_ <;> simp only [memLe, slotsLe, AvLe, lk, ↓reduceIte, Nat.reduceEqDiff, Option.isSome_some, and_self, and_true, true_and, reduceCtorEq, List.map_nil, List.map_cons, Option.some.injEq, AV.v.injEq, Value.int.injEq, Value.bool.injEq, AV.rd.injEq, AV.ow.injEq, AV.al.injEq, AV.ref.injEq] <;> omega))
         | exact ⟨(q - 1, r + y1), (by (refine ent_ok [] rfl ?_ ?_ <;> simp only [memLe, slotsLe, AvLe, lk, ↓reduceIte, Nat.reduceEqDiff, Option.isSome_some, and_self, and_true, true_and, reduceCtorEq, List.map_nil, List.map_cons, Option.some.injEq, AV.v.injEq, Value.int.injEq, Value.bool.injEq, AV.rd.injEq, AV.ow.injEq, AV.al.injEq, AV.ref.injEq] <;> omega)), ⟨d3, d1, by dsimp only; omega, by dsimp only; omega⟩, by dsimp only; omega⟩)
    | (rcases z with ⟨q, r⟩
       dsimp only at *
       have kp := kn_prod y0l hz.2.2.1
       have kq := kQ1 (q := q) (r := r) (.inl (by omega)) hz.1 hz.2.1
       (refine ent_ok [] rfl ?_ ?_ <;> simp only [memLe, slotsLe, AvLe, lk, ↓reduceIte, Nat.reduceEqDiff, Option.isSome_some, and_self, and_true, true_and, reduceCtorEq, List.map_nil, List.map_cons, Option.some.injEq, AV.v.injEq, Value.int.injEq, Value.bool.injEq, AV.rd.injEq, AV.ow.injEq, AV.al.injEq, AV.ref.injEq] <;> omega))
    | (rcases z with ⟨q, r⟩
       dsimp only at *
       have kp := kn_prod y0l hz.2.2.1
       obtain ⟨d1, d2, d3⟩ := kD0 (q := q) (r := r) (by first | (left; omega) | (right; omega)) hz.1 hz.2.1
       first
         | (have kq := kQ0 (q := q - 1) (r := r + y1) (.inr ⟨by omega, by omega⟩) d3 d1
            (refine ent_ok [] rfl ?_ ?_ <;> simp only [memLe, slotsLe, AvLe, lk, ↓reduceIte, Nat.reduceEqDiff, Option.isSome_some, and_self, and_true, true_and, reduceCtorEq, List.map_nil, List.map_cons, Option.some.injEq, AV.v.injEq, Value.int.injEq, Value.bool.injEq, AV.rd.injEq, AV.ow.injEq, AV.al.injEq, AV.ref.injEq] <;> omega))
         | exact ⟨(q - 1, r + y1), (by (refine ent_ok [] rfl ?_ ?_ <;> simp only [memLe, slotsLe, AvLe, lk, ↓reduceIte, Nat.reduceEqDiff, Option.isSome_some, and_self, and_true, true_and, reduceCtorEq, List.map_nil, List.map_cons, Option.some.injEq, AV.v.injEq, Value.int.injEq, Value.bool.injEq, AV.rd.injEq, AV.ow.injEq, AV.al.injEq, AV.ref.injEq] <;> omega)), ⟨d3, d1, by dsimp only; omega, by dsimp only; omega⟩, by dsimp only; omega⟩)
    | (rcases z with ⟨q, r⟩
       dsimp only at *
       have kp := kn_prod y0l hz.2.2.1
       have kq := kQ0 (q := q) (r := r) (.inl (by omega)) hz.1 hz.2.1
       (refine ent_ok [] rfl ?_ ?_ <;> simp only [memLe, slotsLe, AvLe, lk, ↓reduceIte, Nat.reduceEqDiff, Option.isSome_some, and_self, and_true, true_and, reduceCtorEq, List.map_nil, List.map_cons, Option.some.injEq, AV.v.injEq, Value.int.injEq, Value.bool.injEq, AV.rd.injEq, AV.ow.injEq, AV.al.injEq, AV.ref.injEq] <;> omega))
    | (have h1 := Nat.div_le_self l y
       generalize l / y = qq at *
       omega)
    | ((refine ent_ok [] rfl ?_ ?_ <;> simp only [memLe, slotsLe, AvLe, lk, ↓reduceIte, Nat.reduceEqDiff, Option.isSome_some, and_self, and_true, true_and, reduceCtorEq, List.map_nil, List.map_cons, Option.some.injEq, AV.v.injEq, Value.int.injEq, Value.bool.injEq, AV.rd.injEq, AV.ow.injEq, AV.al.injEq, AV.ref.injEq] <;> omega); done)
    | (have h0 : h = 0 := by omega
       subst h0
       simp only [Nat.zero_mul, Nat.zero_add]
       done)
    | (have h0 : h = 0 := by omega
       subst h0
       simp only [Nat.zero_mul, Nat.zero_add]
       exact ⟨trivial, trivial⟩)
    | skip
theorem sound_107 : Sound Try.prog 107 .body (norm s107) := by
  refine sound_norm (sound_body Try.func107 (show Try.f107.body = some (code Try.f107) from rfl) (by kernel_rfl) tysOk G107_ok (drawOk_ok (by kernel_rfl) tysOk G107_ok) (by kernel_rfl) fun ds p r hs hp => ?_)
  unfold s107 at hs
  split at hs
  · cases hs; exact ⟨Nat.le_of_ble_eq_true (by kernel_rfl), w107 _ _ _ hp⟩
  · cases hs
end Go.Proofs.AMT
set_option maxRecDepth 20000
namespace Go.Proofs.AMT
open Go.AM Go.AM.LN
attribute [local congr] bindO_congr bindS_congr bindG_congr awpOps_congr aOne_congr awp_congr aCond_congr awpD_congr dOne_congr keysB_congr nOne_congr thenP_congr blockP_congr Chk_congr Brk_congr
noncomputable def s103 : CSpec := fun ds => match ds with
  | [.sl .u64 a, .v (.int .u64 n)] => some ((lim a ∧ a.length ≤ 100000000) ∧ 0 < n ∧ n < 18446744073709551616, .many [.fresh .u64 (limbs (val a / n.toNat)), .v (.int .u64 ((val a % n.toNat : Nat)))])
  | _ => none
theorem s103_eq (a : List Int) (n : Int) : norm s103 [.sl .u64 a, .v (.int .u64 n)] = some ((lim a ∧ a.length ≤ 100000000) ∧ 0 < n ∧ n < 18446744073709551616, .many [.fresh .u64 (limbs (val a / n.toNat)), .v (.int .u64 ((val a % n.toNat : Nat)))]) := rfl
theorem s103_nil1  (n : Int) : norm s103 [.v (.slice none 0 0), .v (.int .u64 n)] = some ((lim ([] : List Int) ∧ ([] : List Int).length ≤ 100000000) ∧ 0 < n ∧ n < 18446744073709551616, .many [.fresh .u64 (limbs (val ([] : List Int) / n.toNat)), .v (.int .u64 ((val ([] : List Int) % n.toNat : Nat)))]) := rfl
noncomputable def G103 : Gam := [(71, .body, norm s71), (107, .body, norm s107)]
theorem G103_ok : GamOk Try.prog G103 := gamOk_cons sound_71 (gamOk_cons sound_107 gamOk_nil)
theorem k103_71 : lk G103 71 = some (.body, norm s71) := rfl
theorem k103_107 : lk G103 107 = some (.body, norm s107) := rfl
set_option maxHeartbeats 20000000 in
theorem w103 (a : List Int) (n : Int) (hp : (lim a ∧ a.length ≤ 100000000) ∧ 0 < n ∧ n < 18446744073709551616) : awp ty G103 (code Try.f103) (retP ty Try.f103.results.toList (.many [.fresh .u64 (limbs (val a / n.toNat)), .v (.int .u64 ((val a % n.toNat : Nat)))])) (entry 0 [.sl .u64 a, .v (.int .u64 n)]) [] := by
  unfold code
  simp only [Try.f103, Option.getD_some]
  obtain ⟨m, rfl⟩ := Int.eq_ofNat_of_zero_le (show 0 ≤ n by omega)
  all_goals repeat' (first
    | ((first
       | (with_reducible refine ops_k ?_; intro X hX)
       | (with_reducible refine opsN_k ?_; intro X hX)
       | (with_reducible show awp _ _ _ _ (keepL _ _) _)
       | with_reducible refine awp_cond_k ?_
       | (with_reducible refine Brk_i ?_ ?_ <;> intro hb <;> (try simp only [hb]) <;> have hq := hb <;> try simp only [decide_eq_true_eq, decide_eq_false_iff_not, gt_iff_lt, ge_iff_le, Int.not_lt, Int.not_le, beq_iff_eq, beq_eq_false_iff_ne, Bool.not_eq_true', Bool.not_eq_false', Bool.and_eq_true, Bool.or_eq_true, Bool.and_eq_false_imp, Bool.or_eq_false_iff, ne_eq, Classical.not_not] at hq)
       | with_reducible refine retP_ret_i ?_
       | with_reducible refine retP_normal_i ?_
       | (with_reducible (show bindG _ _ _ _ _); simp only [hall])) <;> try simp only [Go.AM.S1, Go.AM.S2, Go.AM.S3, Go.AM.S4, Go.AM.S5, Go.AM.S6, Go.AM.S7, Go.AM.S8, Go.AM.S9, Nat.reduceAdd, Nat.reduceMul, Nat.reduceSub, ↓reduceIte, Nat.reduceEqDiff, Nat.reduceLT, Nat.reduceLeDiff, reduceCtorEq, Int.reduceBEq, Int.reduceBNe, Nat.reduceBEq, Int.reduceEq, Int.reduceToNat, Int.reduceLE, Int.reduceLT, Nat.reduceDiv, Int.reduceAdd, Int.reduceSub, Int.reduceMul, Int.reduceNeg, Int.reduceGT, Int.reduceGE, Nat.reduceMod, k103_71, s71_eq, s71_nil1, k103_107, s107_eq, ty_3, ty_26, ty_42, List.length_replicate])
    | (with_reducible refine hX _ _ ?_; clear hX X)
    | (with_reducible refine ops_nil_i ?_; try clear hall all)
    | (with_reducible refine opsN_nil_i ?_; try clear hall all)
    | (with_reducible refine hK _ _ ?_; clear hK K)
    | with_reducible refine thenP_normal_i ?_
    | (with_reducible refine zzr7 _ _ ?_; try clear zzr7 Kzzr7)
    | (with_reducible refine zzsr3 _ _ ?_; try clear zzsr3 Kzzsr3)
    | (with_reducible refine zzb1 _ _ ?_; try clear zzb1 Kzzb1)
    | (with_reducible refine zzsr4 _ _ ?_; try clear zzsr4 Kzzsr4)
    | (with_reducible refine zzr4 _ _ ?_; try clear zzr4 Kzzr4)
    | (with_reducible refine zzr3 _ _ ?_; try clear zzr3 Kzzr3)
    | (with_reducible refine zzr2 _ _ ?_; try clear zzr2 Kzzr2)
    | (with_reducible refine zzr1 _ _ ?_; try clear zzr1 Kzzr1)
    | (with_reducible refine zzr0 _ _ ?_; try clear zzr0 Kzzr0)
    | (with_reducible refine awp_lp (σ := Nat × Nat × List Int) (fun s => s.1 ≤ a.length ∧ s.2.1 < m ∧ lim s.2.2 ∧ s.2.2.length = a.length ∧ val (s.2.2.drop s.1) = val (a.drop s.1) / m ∧ s.2.1 = val (a.drop s.1) % m) (fun s => [(0, .rd .u64 a), (1, .v (.int .u64 m)), (6, .ow 176), (7, .v (.int .u64 s.2.1)), (8, .v (.int .i64 ((s.1 : Int) - 1)))]) (fun s => [(176, .ints .u64 s.2.2, false)]) (fun s => s.1) (a.length, 0, List.replicate a.length 0) ?_ ?_ (fun s hs => ?_))
    | (with_reducible refine awp_seq_l (a := .region 7 _ _) [4, 5] ?_; intro Kzzr7 zzr7)
    | (with_reducible refine awp_seq_l (a := .seq (.region 3 _ _) _) [6, 7] ?_; intro Kzzsr3 zzsr3)
    | (with_reducible refine awp_seq_l (a := .block 1 _) [0, 1, 6, 7, 8] ?_; intro Kzzb1 zzb1)
    | (with_reducible refine awp_seq_l (a := .seq (.region 4 _ _) _) [0, 1, 6, 7, 8] ?_; intro Kzzsr4 zzsr4)
    | (with_reducible refine awp_seq_l (a := .region 4 _ _) [0, 1, 6, 7, 8, 16] ?_; intro Kzzr4 zzr4)
    | (with_reducible refine awp_seq_l (a := .region 3 _ _) [0, 1, 6, 7, 8] ?_; intro Kzzr3 zzr3)
    | (with_reducible refine awp_seq_l (a := .region 2 _ _) [0, 1, 6, 7] ?_; intro Kzzr2 zzr2)
    | (with_reducible refine awp_seq_l (a := .region 1 _ _) [0, 1, 6] ?_; intro Kzzr1 zzr1)
    | (with_reducible refine awp_seq_l (a := .region 0 _ _) [0, 1] ?_; intro Kzzr0 zzr0)
    | (with_reducible refine awp_seq_k ?_; intro K hK)
    | (with_reducible refine awp_region_a ?_; intro all hall K hK)
    | (with_reducible refine awp_draw_n ?_ ?_; kernel_rfl; intro all hall K hK)
    | (with_reducible refine Chk_i ?_ ?_)
    | (with_reducible refine keysC_i ?_; kernel_rfl)
    | (with_reducible first | refine awp_block_i ?_ | refine awp_skip_i ?_ | refine awp_ret_i ?_ | refine awp_exit_i ?_ | refine thenP_ret_i ?_ | refine thenP_exit_i ?_ | refine lpP_ret_i ?_ | refine lpP_exit_i ?_ | refine unrP_succ_i ?_ | refine unrP_ret_i ?_ | refine unrP_exit_i ?_ | refine blockP_normal_i ?_ | refine blockP_ret_i ?_)
    | (with_reducible refine blockP_exit_i ?_; simp only [↓reduceIte, Nat.reduceEqDiff])
    | with_reducible refine lpP_normal_i ?_)
  all_goals (try clear zzr0; try clear Kzzr0)
  all_goals (try clear zzr1; try clear Kzzr1)
  all_goals (try clear zzr2; try clear Kzzr2)
  all_goals (try clear zzr3; try clear Kzzr3)
  all_goals (try clear zzr4; try clear Kzzr4)
  all_goals (try clear zzsr4; try clear Kzzsr4)
  all_goals (try clear zzb1; try clear Kzzb1)
  all_goals (try clear zzsr3; try clear Kzzsr3)
  all_goals (try clear zzr7; try clear Kzzr7)
  all_goals (try (rcases s with ⟨i, c, o⟩))
  all_goals (try dsimp only at *)
  all_goals (try simp only [inR])
  all_goals (try omega)
  · refine ⟨Nat.le_refl _, by omega, lim_rep _, by simp, ?_, ?_⟩
    · rw [List.drop_of_length_le (by simp), List.drop_length]; simp [val]
    · rw [List.drop_length]; simp [val]
  · exact Ent.refl _ _
  · have h1 := lim_get hp.1.1 (i := ((i : Int) - 1).toNat)
    have h2 := hs.2.1
    exact ⟨⟨by omega, by omega⟩, h1, by omega, by omega⟩
  · have e : ((i : Int) - 1).toNat = i - 1 := by omega
    rw [e]
    have h1 := lim_get hp.1.1 (i := i - 1)
    have h2 := word_step (i := i - 1) hp.1.1 (by omega) hs.2.1 (by omega) hs.2.2.2.1 (by rw [show i - 1 + 1 = i by omega]; exact hs.2.2.2.2)
    have h3 := word_lt (n := m) (by omega) hs.2.1 (show (a.getD (i - 1) 0).toNat < 18446744073709551616 by omega)
    have h4 := Nat.mod_lt (c * 18446744073709551616 + (a.getD (i - 1) 0).toNat) (show 0 < m by omega)
    refine ⟨(i - 1, (c * 18446744073709551616 + (a.getD (i - 1) 0).toNat) % m, o.set (i - 1) (((c * 18446744073709551616 + (a.getD (i - 1) 0).toNat) / m : Nat) : Int)), by (refine ent_ok [(176, 176)] rfl ?_ ?_ <;> simp only [memLe, slotsLe, AvLe, lk, ↓reduceIte, Nat.reduceEqDiff, Option.isSome_some, and_self, and_true, true_and, reduceCtorEq, List.map_nil, List.map_cons, Option.some.injEq, AV.v.injEq, Value.int.injEq, Value.bool.injEq, AV.rd.injEq, AV.ow.injEq, AV.al.injEq, AV.ref.injEq] <;> omega), ⟨by dsimp only; omega, h4, lim_set hs.2.2.1 (nat_lim h3) _, by simp [hs.2.2.2.1], h2.1, h2.2⟩, by dsimp only; omega⟩
  · have h6 := sz_le o
    omega
  · have h0 : i = 0 := by omega
    subst h0
    have h1 := hs.2.2.2.2
    rw [List.drop_zero, List.drop_zero] at h1
    rw [take_sz hs.2.2.1, h1.1, ← h1.2]
    all_goals (first | rfl | exact ⟨rfl, rfl⟩ | exact ⟨⟨rfl, rfl⟩, rfl⟩)
theorem sound_103 : Sound Try.prog 103 .body (norm s103) := by
  refine sound_norm (sound_body Try.func103 (show Try.f103.body = some (code Try.f103) from rfl) (by kernel_rfl) tysOk G103_ok (drawOk_ok (by kernel_rfl) tysOk G103_ok) (by kernel_rfl) fun ds p r hs hp => ?_)
  unfold s103 at hs
  split at hs
  · cases hs; exact ⟨Nat.le_of_ble_eq_true (by kernel_rfl), w103 _ _ hp⟩
  · cases hs
end Go.Proofs.AMT
set_option maxRecDepth 20000
namespace Go.Proofs.AMT
open Go.AM Go.AM.LN
attribute [local congr] bindO_congr bindS_congr bindG_congr awpOps_congr aOne_congr awp_congr aCond_congr awpD_congr dOne_congr keysB_congr nOne_congr thenP_congr blockP_congr Chk_congr Brk_congr
noncomputable def s105 : CSpec := fun ds => match ds with
  | [.sl .u64 a, .v (.int .i64 n)] => some ((lim a ∧ a.length ≤ 90000000) ∧ 0 ≤ n ∧ n ≤ 63, .many [.fresh .u64 (limbs (val a * 2 ^ n.toNat)), .v (.bool true)])
  | _ => none
theorem s105_eq (a : List Int) (n : Int) : norm s105 [.sl .u64 a, .v (.int .i64 n)] = some ((lim a ∧ a.length ≤ 90000000) ∧ 0 ≤ n ∧ n ≤ 63, .many [.fresh .u64 (limbs (val a * 2 ^ n.toNat)), .v (.bool true)]) := rfl
theorem s105_nil1  (n : Int) : norm s105 [.v (.slice none 0 0), .v (.int .i64 n)] = some ((lim ([] : List Int) ∧ ([] : List Int).length ≤ 90000000) ∧ 0 ≤ n ∧ n ≤ 63, .many [.fresh .u64 (limbs (val ([] : List Int) * 2 ^ n.toNat)), .v (.bool true)]) := rfl
noncomputable def G105 : Gam := [(71, .body, norm s71)]
theorem G105_ok : GamOk Try.prog G105 := gamOk_cons sound_71 gamOk_nil
theorem k105_71 : lk G105 71 = some (.body, norm s71) := rfl
set_option maxHeartbeats 20000000 in
theorem w105 (a : List Int) (n : Int) (hp : (lim a ∧ a.length ≤ 90000000) ∧ 0 ≤ n ∧ n ≤ 63) : awp ty G105 (code Try.f105) (retP ty Try.f105.results.toList (.many [.fresh .u64 (limbs (val a * 2 ^ n.toNat)), .v (.bool true)])) (entry 0 [.sl .u64 a, .v (.int .i64 n)]) [] := by
  unfold code
  simp only [Try.f105, Option.getD_some]
  obtain ⟨t, rfl⟩ := Int.eq_ofNat_of_zero_le hp.2.1
  have m1 : min t 64 = t := by omega
  have m2 : (64 - (t : Int)).toNat = 64 - t := by omega
  have m3 : min (64 - t) 64 = 64 - t := by omega
  rcases Nat.eq_zero_or_pos t with ht0 | ht0
  all_goals first
    | (have g5 : decide ((t : Int) > 0) = true := by simp only [decide_eq_true_eq]; omega)
    | (have g5 : decide ((t : Int) > 0) = false := by simp only [decide_eq_false_iff_not]; omega)
  all_goals repeat' (first
    | ((first
       | (with_reducible refine ops_k ?_; intro X hX)
       | (with_reducible refine opsN_k ?_; intro X hX)
       | (with_reducible show awp _ _ _ _ (keepL _ _) _)
       | (with_reducible refine hX _ _ _ _ ?_; clear hX X)
       | (with_reducible refine opsD_k ?_; intro X hX)
       | with_reducible refine awp_cond_k ?_
       | (with_reducible refine Brk_i ?_ ?_ <;> intro hb <;> (try simp only [hb]) <;> have hq := hb <;> try simp only [decide_eq_true_eq, decide_eq_false_iff_not, gt_iff_lt, ge_iff_le, Int.not_lt, Int.not_le, beq_iff_eq, beq_eq_false_iff_ne, Bool.not_eq_true', Bool.not_eq_false', Bool.and_eq_true, Bool.or_eq_true, Bool.and_eq_false_imp, Bool.or_eq_false_iff, ne_eq, Classical.not_not] at hq)
       | with_reducible refine retP_ret_i ?_
       | with_reducible refine retP_normal_i ?_
       | (with_reducible (show bindG _ _ _ _ _); simp only [hall])) <;> try simp only [Go.AM.S1, Go.AM.S2, Go.AM.S3, Go.AM.S4, Go.AM.S5, Go.AM.S6, Go.AM.S7, Go.AM.S8, Go.AM.S9, Nat.reduceAdd, Nat.reduceMul, Nat.reduceSub, ↓reduceIte, Nat.reduceEqDiff, Nat.reduceLT, Nat.reduceLeDiff, reduceCtorEq, Int.reduceBEq, Int.reduceBNe, Nat.reduceBEq, Int.reduceEq, Int.reduceToNat, Int.reduceLE, Int.reduceLT, Nat.reduceDiv, Int.reduceAdd, Int.reduceSub, Int.reduceMul, Int.reduceNeg, Int.reduceGT, Int.reduceGE, Nat.reduceMod, k105_71, s71_eq, s71_nil1, ty_3, ty_26, ty_42, List.length_replicate, IntKind.bits, m1, m2, m3, g5])
    | (with_reducible refine hX _ _ ?_; clear hX X)
    | (with_reducible refine opsD_nil_i ?_; try clear hall all)
    | (with_reducible refine keysB_i ?_; kernel_rfl)
    | ((with_reducible show clashK _ _ _ = true); kernel_rfl)
    | (with_reducible refine ops_nil_i ?_; try clear hall all)
    | (with_reducible refine opsN_nil_i ?_; try clear hall all)
    | (with_reducible refine hK _ _ ?_; clear hK K)
    | with_reducible refine thenP_normal_i ?_
    | (with_reducible refine zzr9 _ _ ?_; try clear zzr9 Kzzr9)
    | (with_reducible refine zzsr2 _ _ ?_; try clear zzsr2 Kzzsr2)
    | (with_reducible refine zzb1 _ _ ?_; try clear zzb1 Kzzb1)
    | (with_reducible refine zzr6 _ _ ?_; try clear zzr6 Kzzr6)
    | (with_reducible refine zzr5 _ _ ?_; try clear zzr5 Kzzr5)
    | (with_reducible refine zzr4 _ _ ?_; try clear zzr4 Kzzr4)
    | (with_reducible refine zzctmp16 _ _ ?_; try clear zzctmp16 Kzzctmp16)
    | (with_reducible refine zzr3 _ _ ?_; try clear zzr3 Kzzr3)
    | (with_reducible refine zzr2 _ _ ?_; try clear zzr2 Kzzr2)
    | (with_reducible refine zzr1 _ _ ?_; try clear zzr1 Kzzr1)
    | (with_reducible refine zzr0 _ _ ?_; try clear zzr0 Kzzr0)
    | (with_reducible refine awp_lp (σ := Nat × List Int) (fun s => s.1 ≤ a.length ∧ lim s.2 ∧ s.2.length = a.length + 1 ∧ val s.2 = val (a.take s.1) * 2 ^ t) (fun s => [(1, .v (.int .i64 t)), (6, .ow 192), (13, .rd .u64 a), (14, .v (.int .i64 a.length)), (15, .v (.int .i64 s.1))]) (fun s => [(192, .ints .u64 s.2, false)]) (fun s => a.length - s.1) (0, List.replicate (a.length + 1) 0) ?_ ?_ (fun s hs => ?_))
    | (with_reducible refine awp_seq_l (a := .region 9 _ _) [4, 5] ?_; intro Kzzr9 zzr9)
    | (with_reducible refine awp_seq_l (a := .seq (.region 2 _ _) _) [6] ?_; intro Kzzsr2 zzsr2)
    | (with_reducible refine awp_seq_l (a := .block 1 _) [1, 6, 13, 14, 15] ?_; intro Kzzb1 zzb1)
    | (with_reducible refine awp_seq_l (a := .region 6 _ _) [1, 6, 7, 8, 13, 14, 15, 30] ?_; intro Kzzr6 zzr6)
    | (with_reducible refine awp_seq_l (a := .region 5 _ _) [1, 6, 7, 8, 13, 14, 15] ?_; intro Kzzr5 zzr5)
    | (with_reducible refine awp_seq_l (a := .region 4 _ _) [1, 6, 7, 8, 13, 14, 15] ?_; intro Kzzr4 zzr4)
    | (with_reducible refine awp_seq_l (a := .cond (.tmp 16) _ _) [1, 6, 13, 14, 15] ?_; intro Kzzctmp16 zzctmp16)
    | (with_reducible refine awp_seq_l (a := .region 3 _ _) [1, 6, 13, 14, 15, 16] ?_; intro Kzzr3 zzr3)
    | (with_reducible refine awp_seq_l (a := .region 2 _ _) [1, 6, 13, 14, 15] ?_; intro Kzzr2 zzr2)
    | (with_reducible refine awp_seq_l (a := .region 1 _ _) [0, 1, 6] ?_; intro Kzzr1 zzr1)
    | (with_reducible refine awp_seq_l (a := .region 0 _ _) [0, 1] ?_; intro Kzzr0 zzr0)
    | (with_reducible refine awp_seq_k ?_; intro K hK)
    | (with_reducible refine awp_region_a ?_; intro all hall K hK)
    | (with_reducible refine awp_draw_a (id := 5) ?_ ?_; kernel_rfl; intro all hall K hK)
    | (with_reducible refine awp_draw_n ?_ ?_; kernel_rfl; intro all hall K hK)
    | (with_reducible refine Chk_i ?_ ?_)
    | (with_reducible refine keysC_i ?_; kernel_rfl)
    | (with_reducible first | refine awp_block_i ?_ | refine awp_skip_i ?_ | refine awp_ret_i ?_ | refine awp_exit_i ?_ | refine thenP_ret_i ?_ | refine thenP_exit_i ?_ | refine lpP_ret_i ?_ | refine lpP_exit_i ?_ | refine unrP_succ_i ?_ | refine unrP_ret_i ?_ | refine unrP_exit_i ?_ | refine blockP_normal_i ?_ | refine blockP_ret_i ?_)
    | (with_reducible refine blockP_exit_i ?_; simp only [↓reduceIte, Nat.reduceEqDiff])
    | with_reducible refine lpP_normal_i ?_)
  all_goals (try clear zzr0; try clear Kzzr0)
  all_goals (try clear zzr1; try clear Kzzr1)
  all_goals (try clear zzr2; try clear Kzzr2)
  all_goals (try clear zzr3; try clear Kzzr3)
  all_goals (try clear zzctmp16; try clear Kzzctmp16)
  all_goals (try clear zzr4; try clear Kzzr4)
  all_goals (try clear zzr5; try clear Kzzr5)
  all_goals (try clear zzr6; try clear Kzzr6)
  all_goals (try clear zzb1; try clear Kzzb1)
  all_goals (try clear zzsr2; try clear Kzzsr2)
  all_goals (try clear zzr9; try clear Kzzr9)
  all_goals clear m1 m2 m3 g5
  all_goals (try simp only [inR])
  all_goals (try (rcases s with ⟨i, o⟩))
  all_goals (try dsimp only at *)
  all_goals first
    | omega
    | exact ⟨Nat.zero_le _, lim_rep _, by simp, by simp [val_rep, val]⟩
    | (rw [show ((a.length : Int) + 1).toNat = a.length + 1 by omega]; exact Ent.refl _ _)
    | (have h1 := shift_lt hp.1.1 hs.2.2.2
       have h2 := low_word (V := 0) hs.2.1 h1 (show t ≤ 64 by omega)
       have h3 := lim_get hs.2.1 (i := i)
       have h4 := lim_get hp.1.1 (i := i)
       have h5 : o.getD (i + 1) 0 = 0 := getD_zero_of_lt hs.2.1 (Nat.lt_of_lt_of_le h1 (by rw [← Nat.pow_add]; exact Nat.pow_le_pow_right (by omega) (by omega)))
       rw [or_low ⟨h3.1, h2⟩ h4 (by omega)]
       rw [castShr2 h4.1]
       have h6 : (o.getD i 0).toNat + (a.getD i 0).toNat * 2 ^ t % 18446744073709551616 < 18446744073709551616 := low_sum (by omega) h2
       have h7 : (a.getD i 0).toNat / 2 ^ (64 - t) < 18446744073709551616 := Nat.lt_of_le_of_lt (Nat.div_le_self _ _) (by omega)
       have e : ((i : Int) + 1).toNat = i + 1 := by omega
       rw [e]
       exact ⟨(i + 1, (o.set i (((o.getD i 0).toNat + (a.getD i 0).toNat * 2 ^ t % 18446744073709551616 : Nat) : Int)).set (i + 1) (((a.getD i 0).toNat / 2 ^ (64 - t) : Nat) : Int)), (by (refine ent_ok [(192, 192)] rfl ?_ ?_ <;> simp only [memLe, slotsLe, AvLe, lk, ↓reduceIte, Nat.reduceEqDiff, Option.isSome_some, and_self, and_true, true_and, reduceCtorEq, List.map_nil, List.map_cons, Option.some.injEq, AV.v.injEq, Value.int.injEq, Value.bool.injEq, AV.rd.injEq, AV.ow.injEq, AV.al.injEq, AV.ref.injEq] <;> omega)), ⟨by dsimp only; omega, lim_set (lim_set hs.2.1 (nat_lim h6) _) (nat_lim h7) _, by simp [hs.2.2.1], shift_step hp.1.1 (by omega) (by omega) hs.2.2.2 rfl h5⟩, by dsimp only; omega⟩)
    | (have h1 := shift_lt hp.1.1 hs.2.2.2
       have h2 := low_word (V := 0) hs.2.1 h1 (show t ≤ 64 by omega)
       have h3 := lim_get hs.2.1 (i := i)
       have h4 := lim_get hp.1.1 (i := i)
       have h5 : o.getD i 0 = 0 := by
         rw [ht0, Nat.pow_zero] at h2
         omega
       rw [or_low ⟨h3.1, h2⟩ h4 (by omega), h5]
       have h6 : (0 : Int).toNat + (a.getD i 0).toNat * 2 ^ t % 18446744073709551616 < 18446744073709551616 := low_sum (by omega) (by rw [ht0]; decide)
       refine ⟨(i + 1, o.set i (((0 : Int).toNat + (a.getD i 0).toNat * 2 ^ t % 18446744073709551616 : Nat) : Int)), (by (refine ent_ok [(192, 192)] rfl ?_ ?_ <;> simp only [memLe, slotsLe, AvLe, lk, ↓reduceIte, Nat.reduceEqDiff, Option.isSome_some, and_self, and_true, true_and, reduceCtorEq, List.map_nil, List.map_cons, Option.some.injEq, AV.v.injEq, Value.int.injEq, Value.bool.injEq, AV.rd.injEq, AV.ow.injEq, AV.al.injEq, AV.ref.injEq] <;> omega)), ⟨by dsimp only; omega, lim_set hs.2.1 (nat_lim h6) _, by simp [hs.2.2.1], ?_⟩, by dsimp only; omega⟩
       simp only [Int.toNat_zero, Nat.zero_add]
       exact shift_step0 hp.1.1 ht0 (by omega) hs.2.2.2 h5)
    | (have h6 := sz_le o
       omega)
    | (have hi : i = a.length := by omega
       rw [take_sz hs.2.1, hs.2.2.2, hi, List.take_length])
    | skip
theorem sound_105 : Sound Try.prog 105 .body (norm s105) := by
  refine sound_norm (sound_body Try.func105 (show Try.f105.body = some (code Try.f105) from rfl) (by kernel_rfl) tysOk G105_ok (drawOk_ok (by kernel_rfl) tysOk G105_ok) (by kernel_rfl) fun ds p r hs hp => ?_)
  unfold s105 at hs
  split at hs
  · cases hs; exact ⟨Nat.le_of_ble_eq_true (by kernel_rfl), w105 _ _ hp⟩
  · cases hs
end Go.Proofs.AMT
set_option maxRecDepth 20000
namespace Go.Proofs.AMT
open Go.AM Go.AM.LN
attribute [local congr] bindO_congr bindS_congr bindG_congr awpOps_congr aOne_congr awp_congr aCond_congr awpD_congr dOne_congr keysB_congr nOne_congr thenP_congr blockP_congr Chk_congr Brk_congr
noncomputable def s100 : CSpec := fun ds => match ds with
  | [.v (.int .u64 x), .v (.int .u64 y)] => some ((0 ≤ x ∧ x < 18446744073709551616) ∧ 0 ≤ y ∧ y < 18446744073709551616, .many [.v (.int .u64 ((x.toNat * y.toNat / 18446744073709551616 : Nat))), .v (.int .u64 ((x.toNat * y.toNat % 18446744073709551616 : Nat)))])
  | _ => none
theorem s100_eq (x : Int) (y : Int) : norm s100 [.v (.int .u64 x), .v (.int .u64 y)] = some ((0 ≤ x ∧ x < 18446744073709551616) ∧ 0 ≤ y ∧ y < 18446744073709551616, .many [.v (.int .u64 ((x.toNat * y.toNat / 18446744073709551616 : Nat))), .v (.int .u64 ((x.toNat * y.toNat % 18446744073709551616 : Nat)))]) := rfl
noncomputable def G100 : Gam := []
theorem G100_ok : GamOk Try.prog G100 := gamOk_nil
set_option maxHeartbeats 20000000 in
theorem w100 (x : Int) (y : Int) (hp : (0 ≤ x ∧ x < 18446744073709551616) ∧ 0 ≤ y ∧ y < 18446744073709551616) : awp ty G100 (code Try.f100) (retP ty Try.f100.results.toList (.many [.v (.int .u64 ((x.toNat * y.toNat / 18446744073709551616 : Nat))), .v (.int .u64 ((x.toNat * y.toNat % 18446744073709551616 : Nat)))])) (entry 0 [.v (.int .u64 x), .v (.int .u64 y)]) [] := by
  unfold code
  simp only [Try.f100, Option.getD_some]
  obtain ⟨x, rfl⟩ := Int.eq_ofNat_of_zero_le hp.1.1
  obtain ⟨y, rfl⟩ := Int.eq_ofNat_of_zero_le hp.2.1
  simp only [Int.toNat_natCast]
  obtain ⟨x0, hx0⟩ : ∃ x0, x % 4294967296 = x0 := ⟨_, rfl⟩
  obtain ⟨x1, hx1⟩ : ∃ x1, x / 4294967296 = x1 := ⟨_, rfl⟩
  obtain ⟨y0, hy0⟩ : ∃ y0, y % 4294967296 = y0 := ⟨_, rfl⟩
  obtain ⟨y1, hy1⟩ : ∃ y1, y / 4294967296 = y1 := ⟨_, rfl⟩
  have m1 : AM.bits .and .u64 (x : Int) 4294967295 = (x0 : Int) := by rw [and32 (by omega), hx0]
  have m2 : AM.bits .and .u64 (y : Int) 4294967295 = (y0 : Int) := by rw [and32 (by omega), hy0]
  have d1 : (x : Int) / 4294967296 = (x1 : Int) := by omega
  have d2 : (y : Int) / 4294967296 = (y1 : Int) := by omega
  have ex : x = x1 * 4294967296 + x0 := by omega
  have ey : y = y1 * 4294967296 + y0 := by omega
  have bx0 : x0 < 4294967296 := by omega
  have by0 : y0 < 4294967296 := by omega
  have bx1 : x1 < 4294967296 := by omega
  have by1 : y1 < 4294967296 := by omega
  obtain ⟨A, hA⟩ : ∃ A, x0 * y0 = A := ⟨_, rfl⟩
  obtain ⟨B, hB⟩ : ∃ B, x1 * y0 = B := ⟨_, rfl⟩
  obtain ⟨C, hC⟩ : ∃ C, x0 * y1 = C := ⟨_, rfl⟩
  obtain ⟨D, hD⟩ : ∃ D, x1 * y1 = D := ⟨_, rfl⟩
  obtain ⟨P, hP⟩ : ∃ P, x * y = P := ⟨_, rfl⟩
  have eP : P = D * 18446744073709551616 + (B + C) * 4294967296 + A := by rw [← hP, ← hA, ← hB, ← hC, ← hD, ex, ey]; grind
  have lA : A ≤ 18446744065119617025 := by rw [← hA]; exact Nat.mul_le_mul (show x0 ≤ 4294967295 by omega) (show y0 ≤ 4294967295 by omega)
  have lB : B ≤ 18446744065119617025 := by rw [← hB]; exact Nat.mul_le_mul (show x1 ≤ 4294967295 by omega) (show y0 ≤ 4294967295 by omega)
  have lC : C ≤ 18446744065119617025 := by rw [← hC]; exact Nat.mul_le_mul (show x0 ≤ 4294967295 by omega) (show y1 ≤ 4294967295 by omega)
  have lD : D ≤ 18446744065119617025 := by rw [← hD]; exact Nat.mul_le_mul (show x1 ≤ 4294967295 by omega) (show y1 ≤ 4294967295 by omega)
  have eA : (x0 : Int) * (y0 : Int) = (A : Int) := by omega
  have eB : (x1 : Int) * (y0 : Int) = (B : Int) := by omega
  have eC : (x0 : Int) * (y1 : Int) = (C : Int) := by omega
  have eD : (x1 : Int) * (y1 : Int) = (D : Int) := by omega
  have eXY : (x : Int) * (y : Int) = (P : Int) := by omega
  have wA : (A : Int) % 18446744073709551616 = (A : Int) := by omega
  obtain ⟨t, ht⟩ : ∃ t, B + A / 4294967296 = t := ⟨_, rfl⟩
  have et : ((B : Int) % 18446744073709551616 + (A : Int) / 4294967296) % 18446744073709551616 = (t : Int) := by omega
  have tl : t < 18446744073709551616 := by omega
  have m3 : AM.bits .and .u64 (t : Int) 4294967295 = ((t % 4294967296 : Nat) : Int) := by rw [and32 tl]
  obtain ⟨w, hw⟩ : ∃ w, t % 4294967296 + C = w := ⟨_, rfl⟩
  have ew : (((t % 4294967296 : Nat) : Int) + (C : Int) % 18446744073709551616) % 18446744073709551616 = (w : Int) := by omega
  have eh : (((D : Int) % 18446744073709551616 + (t : Int) / 4294967296) % 18446744073709551616 + (w : Int) / 4294967296) % 18446744073709551616 = ((P / 18446744073709551616 : Nat) : Int) := by omega
  have el : (P : Int) % 18446744073709551616 = ((P % 18446744073709551616 : Nat) : Int) := by omega
  clear hx0 hx1 hy0 hy1 hA hB hC hD ex ey eP
  all_goals repeat' (first
    | ((first
       | (with_reducible refine ops_k ?_; intro X hX)
       | (with_reducible refine opsN_k ?_; intro X hX)
       | (with_reducible show awp _ _ _ _ (keepL _ _) _)
       | with_reducible refine awp_cond_k ?_
       | (with_reducible refine Brk_i ?_ ?_ <;> intro hb <;> (try simp only [hb]) <;> have hq := hb <;> try simp only [decide_eq_true_eq, decide_eq_false_iff_not, gt_iff_lt, ge_iff_le, Int.not_lt, Int.not_le, beq_iff_eq, beq_eq_false_iff_ne, Bool.not_eq_true', Bool.not_eq_false', Bool.and_eq_true, Bool.or_eq_true, Bool.and_eq_false_imp, Bool.or_eq_false_iff, ne_eq, Classical.not_not] at hq)
       | with_reducible refine retP_ret_i ?_
       | with_reducible refine retP_normal_i ?_
       | (with_reducible (show bindG _ _ _ _ _); simp only [hall])) <;> try simp only [Go.AM.S1, Go.AM.S2, Go.AM.S3, Go.AM.S4, Go.AM.S5, Go.AM.S6, Go.AM.S7, Go.AM.S8, Go.AM.S9, Nat.reduceAdd, Nat.reduceMul, Nat.reduceSub, ↓reduceIte, Nat.reduceEqDiff, Nat.reduceLT, Nat.reduceLeDiff, reduceCtorEq, Int.reduceBEq, Int.reduceBNe, Nat.reduceBEq, Int.reduceEq, Int.reduceToNat, Int.reduceLE, Int.reduceLT, Nat.reduceDiv, Int.reduceAdd, Int.reduceSub, Int.reduceMul, Int.reduceNeg, Int.reduceGT, Int.reduceGE, Nat.reduceMod, ty_26, ty_72, IntKind.bits, minLit, Int.reducePow, m1, m2, d1, d2, eA, eB, eC, eD, eXY, wA, et, m3, ew, eh, el, hP])
    | (with_reducible refine hX _ _ ?_; clear hX X)
    | (with_reducible refine ops_nil_i ?_; try clear hall all)
    | (with_reducible refine opsN_nil_i ?_; try clear hall all)
    | (with_reducible refine hK _ _ ?_; clear hK K)
    | with_reducible refine thenP_normal_i ?_
    | (with_reducible refine zzr11 _ _ ?_; try clear zzr11 Kzzr11)
    | (with_reducible refine zzr10 _ _ ?_; try clear zzr10 Kzzr10)
    | (with_reducible refine zzr9 _ _ ?_; try clear zzr9 Kzzr9)
    | (with_reducible refine zzr8 _ _ ?_; try clear zzr8 Kzzr8)
    | (with_reducible refine zzr7 _ _ ?_; try clear zzr7 Kzzr7)
    | (with_reducible refine zzr6 _ _ ?_; try clear zzr6 Kzzr6)
    | (with_reducible refine zzr5 _ _ ?_; try clear zzr5 Kzzr5)
    | (with_reducible refine zzr4 _ _ ?_; try clear zzr4 Kzzr4)
    | (with_reducible refine zzr3 _ _ ?_; try clear zzr3 Kzzr3)
    | (with_reducible refine zzr2 _ _ ?_; try clear zzr2 Kzzr2)
    | (with_reducible refine zzr1 _ _ ?_; try clear zzr1 Kzzr1)
    | (with_reducible refine zzr0 _ _ ?_; try clear zzr0 Kzzr0)
    | (with_reducible refine awp_seq_l (a := .region 11 _ _) [4, 5] ?_; intro Kzzr11 zzr11)
    | (with_reducible refine awp_seq_l (a := .region 10 _ _) [0, 1, 4] ?_; intro Kzzr10 zzr10)
    | (with_reducible refine awp_seq_l (a := .region 9 _ _) [0, 1, 7, 9, 12, 13] ?_; intro Kzzr9 zzr9)
    | (with_reducible refine awp_seq_l (a := .region 8 _ _) [0, 1, 6, 7, 9, 12, 13] ?_; intro Kzzr8 zzr8)
    | (with_reducible refine awp_seq_l (a := .region 7 _ _) [0, 1, 6, 7, 9, 11, 12] ?_; intro Kzzr7 zzr7)
    | (with_reducible refine awp_seq_l (a := .region 6 _ _) [0, 1, 6, 7, 9, 11] ?_; intro Kzzr6 zzr6)
    | (with_reducible refine awp_seq_l (a := .region 5 _ _) [0, 1, 6, 7, 8, 9, 10] ?_; intro Kzzr5 zzr5)
    | (with_reducible refine awp_seq_l (a := .region 4 _ _) [0, 1, 6, 7, 8, 9] ?_; intro Kzzr4 zzr4)
    | (with_reducible refine awp_seq_l (a := .region 3 _ _) [0, 1, 6, 7, 8] ?_; intro Kzzr3 zzr3)
    | (with_reducible refine awp_seq_l (a := .region 2 _ _) [0, 1, 6, 7] ?_; intro Kzzr2 zzr2)
    | (with_reducible refine awp_seq_l (a := .region 1 _ _) [0, 1, 6] ?_; intro Kzzr1 zzr1)
    | (with_reducible refine awp_seq_l (a := .region 0 _ _) [0, 1] ?_; intro Kzzr0 zzr0)
    | (with_reducible refine awp_seq_k ?_; intro K hK)
    | (with_reducible refine awp_region_a ?_; intro all hall K hK)
    | (with_reducible refine awp_draw_n ?_ ?_; kernel_rfl; intro all hall K hK)
    | (with_reducible refine Chk_i ?_ ?_)
    | (with_reducible refine keysC_i ?_; kernel_rfl)
    | (with_reducible first | refine awp_block_i ?_ | refine awp_skip_i ?_ | refine awp_ret_i ?_ | refine awp_exit_i ?_ | refine thenP_ret_i ?_ | refine thenP_exit_i ?_ | refine lpP_ret_i ?_ | refine lpP_exit_i ?_ | refine unrP_succ_i ?_ | refine unrP_ret_i ?_ | refine unrP_exit_i ?_ | refine blockP_normal_i ?_ | refine blockP_ret_i ?_)
    | (with_reducible refine blockP_exit_i ?_; simp only [↓reduceIte, Nat.reduceEqDiff])
    | with_reducible refine lpP_normal_i ?_)
  all_goals (try clear zzr0; try clear Kzzr0)
  all_goals (try clear zzr1; try clear Kzzr1)
  all_goals (try clear zzr2; try clear Kzzr2)
  all_goals (try clear zzr3; try clear Kzzr3)
  all_goals (try clear zzr4; try clear Kzzr4)
  all_goals (try clear zzr5; try clear Kzzr5)
  all_goals (try clear zzr6; try clear Kzzr6)
  all_goals (try clear zzr7; try clear Kzzr7)
  all_goals (try clear zzr8; try clear Kzzr8)
  all_goals (try clear zzr9; try clear Kzzr9)
  all_goals (try clear zzr10; try clear Kzzr10)
  all_goals (try clear zzr11; try clear Kzzr11)
theorem sound_100 : Sound Try.prog 100 .body (norm s100) := by
  refine sound_norm (sound_body Try.func100 (show Try.f100.body = some (code Try.f100) from rfl) (by kernel_rfl) tysOk G100_ok (drawOk_ok (by kernel_rfl) tysOk G100_ok) (by kernel_rfl) fun ds p r hs hp => ?_)
  unfold s100 at hs
  split at hs
  · cases hs; exact ⟨Nat.le_of_ble_eq_true (by kernel_rfl), w100 _ _ hp⟩
  · cases hs
end Go.Proofs.AMT
set_option maxRecDepth 20000
namespace Go.Proofs.AMT
open Go.AM Go.AM.LN
attribute [local congr] bindO_congr bindS_congr bindG_congr awpOps_congr aOne_congr awp_congr aCond_congr awpD_congr dOne_congr keysB_congr nOne_congr thenP_congr blockP_congr Chk_congr Brk_congr
noncomputable def s106 : CSpec := fun ds => match ds with
  | [.sl .u64 a, .sl .u64 b] => some ((lim a ∧ a.length ≤ 80000000) ∧ (lim b ∧ b.length ≤ 80000000) ∧ 2 ≤ b.length ∧ NB b, .many [.fresh .u64 (limbs (val a / val b)), .fresh .u64 (limbs (val a % val b))])
  | _ => none
theorem s106_eq (a : List Int) (b : List Int) : norm s106 [.sl .u64 a, .sl .u64 b] = some ((lim a ∧ a.length ≤ 80000000) ∧ (lim b ∧ b.length ≤ 80000000) ∧ 2 ≤ b.length ∧ NB b, .many [.fresh .u64 (limbs (val a / val b)), .fresh .u64 (limbs (val a % val b))]) := rfl
theorem s106_nil1  (b : List Int) : norm s106 [.v (.slice none 0 0), .sl .u64 b] = some ((lim ([] : List Int) ∧ ([] : List Int).length ≤ 80000000) ∧ (lim b ∧ b.length ≤ 80000000) ∧ 2 ≤ b.length ∧ NB b, .many [.fresh .u64 (limbs (val ([] : List Int) / val b)), .fresh .u64 (limbs (val ([] : List Int) % val b))]) := rfl
theorem s106_nil2 (a : List Int)  : norm s106 [.sl .u64 a, .v (.slice none 0 0)] = some ((lim a ∧ a.length ≤ 80000000) ∧ (lim ([] : List Int) ∧ ([] : List Int).length ≤ 80000000) ∧ 2 ≤ ([] : List Int).length ∧ NB ([] : List Int), .many [.fresh .u64 (limbs (val a / val ([] : List Int))), .fresh .u64 (limbs (val a % val ([] : List Int)))]) := rfl
theorem s106_nil3   : norm s106 [.v (.slice none 0 0), .v (.slice none 0 0)] = some ((lim ([] : List Int) ∧ ([] : List Int).length ≤ 80000000) ∧ (lim ([] : List Int) ∧ ([] : List Int).length ≤ 80000000) ∧ 2 ≤ ([] : List Int).length ∧ NB ([] : List Int), .many [.fresh .u64 (limbs (val ([] : List Int) / val ([] : List Int))), .fresh .u64 (limbs (val ([] : List Int) % val ([] : List Int)))]) := rfl
noncomputable def G106 : Gam := [(70, .body, norm sClone), (71, .body, norm s71), (98, .ext, sSub64), (99, .ext, sAdd64), (100, .body, norm s100), (107, .body, norm s107)]
theorem G106_ok : GamOk Try.prog G106 := gamOk_cons clone_n (gamOk_cons sound_71 (gamOk_cons ext_98 (gamOk_cons ext_99 (gamOk_cons sound_100 (gamOk_cons sound_107 gamOk_nil)))))
theorem k106_70 : lk G106 70 = some (.body, norm sClone) := rfl
theorem k106_71 : lk G106 71 = some (.body, norm s71) := rfl
theorem k106_98 : lk G106 98 = some (.ext, sSub64) := rfl
theorem k106_99 : lk G106 99 = some (.ext, sAdd64) := rfl
theorem k106_100 : lk G106 100 = some (.body, norm s100) := rfl
theorem k106_107 : lk G106 107 = some (.body, norm s107) := rfl
set_option maxHeartbeats 20000000 in
theorem w106 (a : List Int) (b : List Int) (hp : (lim a ∧ a.length ≤ 80000000) ∧ (lim b ∧ b.length ≤ 80000000) ∧ 2 ≤ b.length ∧ NB b) : awp ty G106 (code Try.f106) (retP ty Try.f106.results.toList (.many [.fresh .u64 (limbs (val a / val b)), .fresh .u64 (limbs (val a % val b))])) (entry 0 [.sl .u64 a, .sl .u64 b]) [] := by
  unfold code
  simp only [Try.f106, Option.getD_some]
  have mE : max (((a.length + 1 : Nat) : Int) - (b.length : Int)) 0 = ((a.length + 1 - b.length : Nat) : Int) := by omega
  have mT : (((a.length + 1 - b.length : Nat) : Int)).toNat = a.length + 1 - b.length := by omega
  all_goals repeat' (first
    | ((first
       | (with_reducible refine ops_k ?_; intro X hX)
       | (with_reducible refine opsN_k ?_; intro X hX)
       | (with_reducible show awp _ _ _ _ (keepL _ _) _)
       | with_reducible refine awp_cond_k ?_
       | (with_reducible refine Brk_i ?_ ?_ <;> intro hb <;> (try simp only [hb]) <;> have hq := hb <;> try simp only [decide_eq_true_eq, decide_eq_false_iff_not, gt_iff_lt, ge_iff_le, Int.not_lt, Int.not_le, beq_iff_eq, beq_eq_false_iff_ne, Bool.not_eq_true', Bool.not_eq_false', Bool.and_eq_true, Bool.or_eq_true, Bool.and_eq_false_imp, Bool.or_eq_false_iff, ne_eq, Classical.not_not] at hq)
       | with_reducible refine retP_ret_i ?_
       | with_reducible refine retP_normal_i ?_
       | (with_reducible (show bindG _ _ _ _ _); simp only [hall])) <;> try simp only [Go.AM.S1, Go.AM.S2, Go.AM.S3, Go.AM.S4, Go.AM.S5, Go.AM.S6, Go.AM.S7, Go.AM.S8, Go.AM.S9, Nat.reduceAdd, Nat.reduceMul, Nat.reduceSub, ↓reduceIte, Nat.reduceEqDiff, Nat.reduceLT, Nat.reduceLeDiff, reduceCtorEq, Int.reduceBEq, Int.reduceBNe, Nat.reduceBEq, Int.reduceEq, Int.reduceToNat, Int.reduceLE, Int.reduceLT, Nat.reduceDiv, Int.reduceAdd, Int.reduceSub, Int.reduceMul, Int.reduceNeg, Int.reduceGT, Int.reduceGE, Nat.reduceMod, k106_70, sClone_eq, sClone_nil, k106_71, s71_eq, s71_nil1, k106_98, sSub64_eq, k106_99, sAdd64_eq, k106_100, s100_eq, k106_107, s107_eq, ty_3, ty_26, ty_42, aOne_append, bindP_some, spAppend, intSl, yInts, killE, namesT, names, List.map_cons, List.map_nil, toInts, List.length_append, List.length_replicate, mE, mT])
    | (with_reducible refine hX _ _ ?_; clear hX X)
    | (with_reducible refine ops_nil_i ?_; try clear hall all)
    | (with_reducible refine opsN_nil_i ?_; try clear hall all)
    | (with_reducible refine hK _ _ ?_; clear hK K)
    | with_reducible refine thenP_normal_i ?_
    | (with_reducible refine zzr39 _ _ ?_; try clear zzr39 Kzzr39)
    | (with_reducible refine zzsr4 _ _ ?_; try clear zzsr4 Kzzsr4)
    | (with_reducible refine zzb1 _ _ ?_; try clear zzb1 Kzzb1)
    | (with_reducible refine zzb6 _ _ ?_; try clear zzb6 Kzzb6)
    | (with_reducible refine zzr36 _ _ ?_; try clear zzr36 Kzzr36)
    | (with_reducible refine zzsr31 _ _ ?_; try clear zzsr31 Kzzsr31)
    | (with_reducible refine zzb9 _ _ ?_; try clear zzb9 Kzzb9)
    | (with_reducible refine zzr33 _ _ ?_; try clear zzr33 Kzzr33)
    | (with_reducible refine zzctmp185 _ _ ?_; try clear zzctmp185 Kzzctmp185)
    | (with_reducible refine zzr32 _ _ ?_; try clear zzr32 Kzzr32)
    | (with_reducible refine zzr31 _ _ ?_; try clear zzr31 Kzzr31)
    | (with_reducible refine zzr30 _ _ ?_; try clear zzr30 Kzzr30)
    | (with_reducible refine zzr29 _ _ ?_; try clear zzr29 Kzzr29)
    | (with_reducible refine zzsr28 _ _ ?_; try clear zzsr28 Kzzsr28)
    | (with_reducible refine zzr28 _ _ ?_; try clear zzr28 Kzzr28)
    | (with_reducible refine zzr27 _ _ ?_; try clear zzr27 Kzzr27)
    | (with_reducible refine zzsr18 _ _ ?_; try clear zzsr18 Kzzsr18)
    | (with_reducible refine zzb5 _ _ ?_; try clear zzb5 Kzzb5)
    | (with_reducible refine zzr24 _ _ ?_; try clear zzr24 Kzzr24)
    | (with_reducible refine zzr23 _ _ ?_; try clear zzr23 Kzzr23)
    | (with_reducible refine zzr22 _ _ ?_; try clear zzr22 Kzzr22)
    | (with_reducible refine zzr21 _ _ ?_; try clear zzr21 Kzzr21)
    | (with_reducible refine zzr20 _ _ ?_; try clear zzr20 Kzzr20)
    | (with_reducible refine zzctmp124 _ _ ?_; try clear zzctmp124 Kzzctmp124)
    | (with_reducible refine zzr19 _ _ ?_; try clear zzr19 Kzzr19)
    | (with_reducible refine zzr18 _ _ ?_; try clear zzr18 Kzzr18)
    | (with_reducible refine zzr17 _ _ ?_; try clear zzr17 Kzzr17)
    | (with_reducible refine zzsr8 _ _ ?_; try clear zzsr8 Kzzsr8)
    | (with_reducible refine zzr16 _ _ ?_; try clear zzr16 Kzzr16)
    | (with_reducible refine zzr15 _ _ ?_; try clear zzr15 Kzzr15)
    | (with_reducible refine zzr14 _ _ ?_; try clear zzr14 Kzzr14)
    | (with_reducible refine zzr13 _ _ ?_; try clear zzr13 Kzzr13)
    | (with_reducible refine zzsr12 _ _ ?_; try clear zzsr12 Kzzsr12)
    | (with_reducible refine zzr12 _ _ ?_; try clear zzr12 Kzzr12)
    | (with_reducible refine zzr11 _ _ ?_; try clear zzr11 Kzzr11)
    | (with_reducible refine zzr10 _ _ ?_; try clear zzr10 Kzzr10)
    | (with_reducible refine zzr9 _ _ ?_; try clear zzr9 Kzzr9)
    | (with_reducible refine zzr8 _ _ ?_; try clear zzr8 Kzzr8)
    | (with_reducible refine zzr7 _ _ ?_; try clear zzr7 Kzzr7)
    | (with_reducible refine zzsr5 _ _ ?_; try clear zzsr5 Kzzsr5)
    | (with_reducible refine zzr5 _ _ ?_; try clear zzr5 Kzzr5)
    | (with_reducible refine zzr4 _ _ ?_; try clear zzr4 Kzzr4)
    | (with_reducible refine zzr3 _ _ ?_; try clear zzr3 Kzzr3)
    | (with_reducible refine zzr2 _ _ ?_; try clear zzr2 Kzzr2)
    | (with_reducible refine zzr1 _ _ ?_; try clear zzr1 Kzzr1)
    | (with_reducible refine zzr0 _ _ ?_; try clear zzr0 Kzzr0)
    | (with_reducible refine awp_seq_j (a := .seq (.region 8 _ _) _) (ι := {g : Nat // g < 18446744073709551616 ∧ QL s.2.1 b s.1 g}) (fun g => [(1, .rd .u64 b), (6, .v (.int .i64 b.length)), (7, .ow 448), (8, .ow 576), (9, .v (.int .i64 ((s.1 : Int) - 1))), (10, .v (.int .u64 g.1))]) (fun _ => [(448, .ints .u64 s.2.1, false), (576, .ints .u64 s.2.2, false)]) (fun ⟨g, hg⟩ => ?_) ?_; rotate_left; intro Kj hj8)
    | (with_reducible refine awp_seq_j (a := .region 27 _ _) (ι := {t : Nat × List Int // (t.1 ≤ 1 ∧ t.2.length = a.length + 1) ∧ LY s.2.1 b s.1 g t.1 t.2}) (fun t => [(1, .rd .u64 b), (6, .v (.int .i64 b.length)), (7, .ow 448), (8, .ow 576), (9, .v (.int .i64 ((s.1 : Int) - 1))), (10, .v (.int .u64 g)), (16, .v (.int .u64 t.1.1))]) (fun t => [(448, .ints .u64 t.1.2, false), (576, .ints .u64 s.2.2, false)]) (fun ⟨t, ht⟩ => ?_) ?_; rotate_left; intro Kj hj27)
    | (with_reducible refine awp_lp (c := .seq (.seq (.region 5 _ _) _) _) (σ := Nat × List Int × List Int) (fun s => (s.1 ≤ a.length + 1 - b.length ∧ s.2.1.length = a.length + 1 ∧ s.2.2.length = a.length + 1 - b.length) ∧ LO a b s.2.1 s.2.2 s.1) (fun s => [(1, .rd .u64 b), (6, .v (.int .i64 b.length)), (7, .ow 448), (8, .ow 576), (9, .v (.int .i64 ((s.1 : Int) - 1)))]) (fun s => [(448, .ints .u64 s.2.1, false), (576, .ints .u64 s.2.2, false)]) (fun s => s.1) (a.length + 1 - b.length, a ++ [0], List.replicate (a.length + 1 - b.length) 0) ?_ ?_ (fun s hs => ?_))
    | (with_reducible refine awp_lp (c := .block 3 _) (σ := Nat × Nat) (fun z => (z.1 < 18446744073709551616 ∧ z.2 < 18446744073709551616) ∧ LG s.2.1 b s.1 z.1 z.2) (fun z => [(1, .rd .u64 b), (6, .v (.int .i64 b.length)), (7, .ow 448), (8, .ow 576), (9, .v (.int .i64 ((s.1 : Int) - 1))), (10, .v (.int .u64 z.1)), (11, .v (.int .u64 z.2))]) (fun z => [(448, .ints .u64 s.2.1, false), (576, .ints .u64 s.2.2, false)]) (fun z => z.1) (((s.2.1.getD (s.1 - 1 + b.length) 0).toNat * 18446744073709551616 + (s.2.1.getD (s.1 - 1 + b.length - 1) 0).toNat) / (b.getD (b.length - 1) 0).toNat, ((s.2.1.getD (s.1 - 1 + b.length) 0).toNat * 18446744073709551616 + (s.2.1.getD (s.1 - 1 + b.length - 1) 0).toNat) % (b.getD (b.length - 1) 0).toNat) ?_ ?_ (fun z hz => ?_))
    | (with_reducible refine awp_lp (c := .seq (.region 19 _ _) _) (σ := Nat × Nat × Nat × List Int) (fun e => (e.1 ≤ b.length ∧ e.2.1 < 18446744073709551616 ∧ e.2.2.1 ≤ 1 ∧ e.2.2.2.length = a.length + 1) ∧ LM s.2.1 b s.1 g e.1 e.2.1 e.2.2.1 e.2.2.2) (fun e => [(1, .rd .u64 b), (6, .v (.int .i64 b.length)), (7, .ow 448), (8, .ow 576), (9, .v (.int .i64 ((s.1 : Int) - 1))), (10, .v (.int .u64 g)), (15, .v (.int .u64 e.2.1)), (16, .v (.int .u64 e.2.2.1)), (121, .rd .u64 b), (122, .v (.int .i64 b.length)), (123, .v (.int .i64 e.1))]) (fun e => [(448, .ints .u64 e.2.2.2, false), (576, .ints .u64 s.2.2, false)]) (fun e => b.length - e.1) (0, 0, 0, s.2.1) ?_ ?_ (fun e he => ?_))
    | (with_reducible refine awp_lp (c := .seq (.seq (.region 28 _ _) _) _) (σ := Nat × Nat × List Int) (fun y => (y.1 < 18446744073709551616 ∧ y.2.1 ≤ 1 ∧ y.2.2.length = a.length + 1) ∧ LY s.2.1 b s.1 y.1 y.2.1 y.2.2) (fun y => [(1, .rd .u64 b), (6, .v (.int .i64 b.length)), (7, .ow 448), (8, .ow 576), (9, .v (.int .i64 ((s.1 : Int) - 1))), (10, .v (.int .u64 y.1)), (16, .v (.int .u64 y.2.1))]) (fun y => [(448, .ints .u64 y.2.2, false), (576, .ints .u64 s.2.2, false)]) (fun y => y.1) (g, t) ?_ ?_ (fun y hy => ?_))
    | (with_reducible refine awp_lp (c := .seq (.region 32 _ _) _) (σ := Nat × Nat × List Int) (fun x => (x.1 ≤ b.length ∧ x.2.1 ≤ 1 ∧ x.2.2.length = a.length + 1) ∧ LX y.2.2 b s.1 x.1 x.2.1 x.2.2) (fun x => [(1, .rd .u64 b), (6, .v (.int .i64 b.length)), (7, .ow 448), (8, .ow 576), (9, .v (.int .i64 ((s.1 : Int) - 1))), (10, .v (.int .u64 ((y.1 : Int) - 1))), (16, .v (.int .u64 y.2.1)), (22, .v (.int .u64 x.2.1)), (182, .rd .u64 b), (183, .v (.int .i64 b.length)), (184, .v (.int .i64 x.1))]) (fun x => [(448, .ints .u64 x.2.2, false), (576, .ints .u64 s.2.2, false)]) (fun x => b.length - x.1) (0, 0, y.2.2) ?_ ?_ (fun x hx => ?_))
    | (with_reducible refine awp_seq_l (a := .region 39 _ _) [4, 5] ?_; intro Kzzr39 zzr39)
    | (with_reducible refine awp_seq_l (a := .seq (.region 4 _ _) _) [6, 7, 8] ?_; intro Kzzsr4 zzsr4)
    | (with_reducible refine awp_seq_l (a := .block 1 _) [1, 6, 7, 8, 9] ?_; intro Kzzb1 zzb1)
    | (with_reducible refine awp_seq_l (a := .block 6 _) [1, 6, 7, 8, 9, 10] ?_; intro Kzzb6 zzb6)
    | (with_reducible refine awp_seq_l (a := .region 36 _ _) [1, 6, 7, 8, 9, 10, 16, 22] ?_; intro Kzzr36 zzr36)
    | (with_reducible refine awp_seq_l (a := .seq (.region 31 _ _) _) [1, 6, 7, 8, 9, 10, 16, 22] ?_; intro Kzzsr31 zzsr31)
    | (with_reducible refine awp_seq_l (a := .block 9 _) [1, 6, 7, 8, 9, 10, 16, 22, 182, 183, 184] ?_; intro Kzzb9 zzb9)
    | (with_reducible refine awp_seq_l (a := .region 33 _ _) [1, 6, 7, 8, 9, 10, 16, 22, 23, 24, 182, 183, 184] ?_; intro Kzzr33 zzr33)
    | (with_reducible refine awp_seq_l (a := .cond (.tmp 185) _ _) [1, 6, 7, 8, 9, 10, 16, 22, 182, 183, 184] ?_; intro Kzzctmp185 zzctmp185)
    | (with_reducible refine awp_seq_l (a := .region 32 _ _) [1, 6, 7, 8, 9, 10, 16, 22, 182, 183, 184, 185] ?_; intro Kzzr32 zzr32)
    | (with_reducible refine awp_seq_l (a := .region 31 _ _) [1, 6, 7, 8, 9, 10, 16, 22, 182, 183, 184] ?_; intro Kzzr31 zzr31)
    | (with_reducible refine awp_seq_l (a := .region 30 _ _) [1, 6, 7, 8, 9, 10, 16, 22] ?_; intro Kzzr30 zzr30)
    | (with_reducible refine awp_seq_l (a := .region 29 _ _) [1, 6, 7, 8, 9, 10, 16] ?_; intro Kzzr29 zzr29)
    | (with_reducible refine awp_seq_l (a := .seq (.region 28 _ _) _) [1, 6, 7, 8, 9, 10, 16] ?_; intro Kzzsr28 zzsr28)
    | (with_reducible refine awp_seq_l (a := .region 28 _ _) [1, 6, 7, 8, 9, 10, 16, 179] ?_; intro Kzzr28 zzr28)
    | (with_reducible refine awp_seq_l (a := .region 27 _ _) [1, 6, 7, 8, 9, 10, 16] ?_; intro Kzzr27 zzr27)
    | (with_reducible refine awp_seq_l (a := .seq (.region 18 _ _) _) [1, 6, 7, 8, 9, 10, 15, 16] ?_; intro Kzzsr18 zzsr18)
    | (with_reducible refine awp_seq_l (a := .block 5 _) [1, 6, 7, 8, 9, 10, 15, 16, 121, 122, 123] ?_; intro Kzzb5 zzb5)
    | (with_reducible refine awp_seq_l (a := .region 24 _ _) [1, 6, 7, 8, 9, 10, 15, 16, 17, 20, 121, 122, 123] ?_; intro Kzzr24 zzr24)
    | (with_reducible refine awp_seq_l (a := .region 23 _ _) [1, 6, 7, 8, 9, 10, 16, 17, 19, 20, 21, 121, 122, 123] ?_; intro Kzzr23 zzr23)
    | (with_reducible refine awp_seq_l (a := .region 22 _ _) [1, 6, 7, 8, 9, 10, 15, 16, 17, 19, 20, 121, 122, 123] ?_; intro Kzzr22 zzr22)
    | (with_reducible refine awp_seq_l (a := .region 21 _ _) [1, 6, 7, 8, 9, 10, 15, 16, 17, 19, 20, 121, 122, 123] ?_; intro Kzzr21 zzr21)
    | (with_reducible refine awp_seq_l (a := .region 20 _ _) [1, 6, 7, 8, 9, 10, 15, 16, 17, 18, 121, 122, 123] ?_; intro Kzzr20 zzr20)
    | (with_reducible refine awp_seq_l (a := .cond (.tmp 124) _ _) [1, 6, 7, 8, 9, 10, 15, 16, 121, 122, 123] ?_; intro Kzzctmp124 zzctmp124)
    | (with_reducible refine awp_seq_l (a := .region 19 _ _) [1, 6, 7, 8, 9, 10, 15, 16, 121, 122, 123, 124] ?_; intro Kzzr19 zzr19)
    | (with_reducible refine awp_seq_l (a := .region 18 _ _) [1, 6, 7, 8, 9, 10, 15, 16, 121, 122, 123] ?_; intro Kzzr18 zzr18)
    | (with_reducible refine awp_seq_l (a := .region 17 _ _) [1, 6, 7, 8, 9, 10, 15, 16] ?_; intro Kzzr17 zzr17)
    | (with_reducible refine awp_seq_l (a := .seq (.region 8 _ _) _) [1, 6, 7, 8, 9, 10] ?_; intro Kzzsr8 zzsr8)
    | (with_reducible refine awp_seq_l (a := .region 16 _ _) [1, 6, 7, 8, 9, 10, 11, 120] ?_; intro Kzzr16 zzr16)
    | (with_reducible refine awp_seq_l (a := .region 15 _ _) [1, 6, 7, 8, 9, 10, 11, 14] ?_; intro Kzzr15 zzr15)
    | (with_reducible refine awp_seq_l (a := .region 14 _ _) [1, 6, 7, 8, 9, 10, 11] ?_; intro Kzzr14 zzr14)
    | (with_reducible refine awp_seq_l (a := .region 13 _ _) [1, 6, 7, 8, 9, 10, 11] ?_; intro Kzzr13 zzr13)
    | (with_reducible refine awp_seq_l (a := .seq (.region 12 _ _) _) [1, 6, 7, 8, 9, 10, 11] ?_; intro Kzzsr12 zzsr12)
    | (with_reducible refine awp_seq_l (a := .region 12 _ _) [1, 6, 7, 8, 9, 10, 11, 106] ?_; intro Kzzr12 zzr12)
    | (with_reducible refine awp_seq_l (a := .region 11 _ _) [1, 6, 7, 8, 9, 10, 11, 12, 13] ?_; intro Kzzr11 zzr11)
    | (with_reducible refine awp_seq_l (a := .region 10 _ _) [1, 6, 7, 8, 9, 10, 11] ?_; intro Kzzr10 zzr10)
    | (with_reducible refine awp_seq_l (a := .region 9 _ _) [1, 6, 7, 8, 9] ?_; intro Kzzr9 zzr9)
    | (with_reducible refine awp_seq_l (a := .region 8 _ _) [1, 6, 7, 8, 9, 10, 55] ?_; intro Kzzr8 zzr8)
    | (with_reducible refine awp_seq_l (a := .region 7 _ _) [1, 6, 7, 8, 9, 10] ?_; intro Kzzr7 zzr7)
    | (with_reducible refine awp_seq_l (a := .seq (.region 5 _ _) _) [1, 6, 7, 8, 9] ?_; intro Kzzsr5 zzsr5)
    | (with_reducible refine awp_seq_l (a := .region 5 _ _) [1, 6, 7, 8, 9, 41] ?_; intro Kzzr5 zzr5)
    | (with_reducible refine awp_seq_l (a := .region 4 _ _) [1, 6, 7, 8, 9] ?_; intro Kzzr4 zzr4)
    | (with_reducible refine awp_seq_l (a := .region 3 _ _) [1, 6, 7, 8] ?_; intro Kzzr3 zzr3)
    | (with_reducible refine awp_seq_l (a := .region 2 _ _) [1, 6, 7] ?_; intro Kzzr2 zzr2)
    | (with_reducible refine awp_seq_l (a := .region 1 _ _) [0, 1, 6] ?_; intro Kzzr1 zzr1)
    | (with_reducible refine awp_seq_l (a := .region 0 _ _) [0, 1] ?_; intro Kzzr0 zzr0)
    | (with_reducible refine awp_seq_k ?_; intro K hK)
    | (with_reducible refine awp_region_a ?_; intro all hall K hK)
    | (with_reducible refine awp_draw_n ?_ ?_; kernel_rfl; intro all hall K hK)
    | (with_reducible refine Chk_i ?_ ?_)
    | (with_reducible refine keysC_i ?_; kernel_rfl)
    | (with_reducible first | refine awp_block_i ?_ | refine awp_skip_i ?_ | refine awp_ret_i ?_ | refine awp_exit_i ?_ | refine thenP_ret_i ?_ | refine thenP_exit_i ?_ | refine lpP_ret_i ?_ | refine lpP_exit_i ?_ | refine unrP_succ_i ?_ | refine unrP_ret_i ?_ | refine unrP_exit_i ?_ | refine blockP_normal_i ?_ | refine blockP_ret_i ?_)
    | (with_reducible refine blockP_exit_i ?_; simp only [↓reduceIte, Nat.reduceEqDiff])
    | with_reducible refine lpP_normal_i ?_)
  all_goals (try clear zzr0; try clear Kzzr0)
  all_goals (try clear zzr1; try clear Kzzr1)
  all_goals (try clear zzr2; try clear Kzzr2)
  all_goals (try clear zzr3; try clear Kzzr3)
  all_goals (try clear zzr4; try clear Kzzr4)
  all_goals (try clear zzr5; try clear Kzzr5)
  all_goals (try clear zzsr5; try clear Kzzsr5)
  all_goals (try clear zzr7; try clear Kzzr7)
  all_goals (try clear zzr8; try clear Kzzr8)
  all_goals (try clear zzr9; try clear Kzzr9)
  all_goals (try clear zzr10; try clear Kzzr10)
  all_goals (try clear zzr11; try clear Kzzr11)
  all_goals (try clear zzr12; try clear Kzzr12)
  all_goals (try clear zzsr12; try clear Kzzsr12)
  all_goals (try clear zzr13; try clear Kzzr13)
  all_goals (try clear zzr14; try clear Kzzr14)
  all_goals (try clear zzr15; try clear Kzzr15)
  all_goals (try clear zzr16; try clear Kzzr16)
  all_goals (try clear zzsr8; try clear Kzzsr8)
  all_goals (try clear zzr17; try clear Kzzr17)
  all_goals (try clear zzr18; try clear Kzzr18)
  all_goals (try clear zzr19; try clear Kzzr19)
  all_goals (try clear zzctmp124; try clear Kzzctmp124)
  all_goals (try clear zzr20; try clear Kzzr20)
  all_goals (try clear zzr21; try clear Kzzr21)
  all_goals (try clear zzr22; try clear Kzzr22)
  all_goals (try clear zzr23; try clear Kzzr23)
  all_goals (try clear zzr24; try clear Kzzr24)
  all_goals (try clear zzb5; try clear Kzzb5)
  all_goals (try clear zzsr18; try clear Kzzsr18)
  all_goals (try clear zzr27; try clear Kzzr27)
  all_goals (try clear zzr28; try clear Kzzr28)
  all_goals (try clear zzsr28; try clear Kzzsr28)
  all_goals (try clear zzr29; try clear Kzzr29)
  all_goals (try clear zzr30; try clear Kzzr30)
  all_goals (try clear zzr31; try clear Kzzr31)
  all_goals (try clear zzr32; try clear Kzzr32)
  all_goals (try clear zzctmp185; try clear Kzzctmp185)
  all_goals (try clear zzr33; try clear Kzzr33)
  all_goals (try clear zzb9; try clear Kzzb9)
  all_goals (try clear zzsr31; try clear Kzzsr31)
  all_goals (try clear zzr36; try clear Kzzr36)
  all_goals (try clear zzb6; try clear Kzzb6)
  all_goals (try clear zzb1; try clear Kzzb1)
  all_goals (try clear zzsr4; try clear Kzzsr4)
  all_goals (try clear zzr39; try clear Kzzr39)
  all_goals (try simp only [inR])
  all_goals clear mE mT
  all_goals (obtain ⟨⟨la, pa⟩, ⟨lb, pb⟩, p2, hB⟩ := hp)
  all_goals (try (rcases x with ⟨xi, xc, xu⟩))
  all_goals (try (rcases y with ⟨yg, yw, yu⟩))
  all_goals (try (rcases e with ⟨ei, ec, ew, eu⟩))
  all_goals (try (rcases z with ⟨zg, zr⟩))
  all_goals (try (rcases s with ⟨k, u, q⟩))
  all_goals (try (rcases t with ⟨tw, tu⟩))
  all_goals (try (obtain ⟨xx, hx⟩ := hx))
  all_goals (try (obtain ⟨yy, hy⟩ := hy))
  all_goals (try (obtain ⟨ee, he⟩ := he))
  all_goals (try (obtain ⟨zz, hz⟩ := hz))
  all_goals (try (obtain ⟨tt, ht⟩ := ht))
  all_goals (try (obtain ⟨gg, hg⟩ := hg))
  all_goals (try (obtain ⟨ss, hs⟩ := hs))
  all_goals (try dsimp only at *)
  all_goals first
    | omega
    | with_reducible exact Ent.refl _ _
    | (have hk1 : 1 ≤ k := by omega
       have e1 : ((k : Int) - 1 + (b.length : Int)).toNat = k - 1 + b.length := by omega
       have e2 : ((k : Int) - 1 + (b.length : Int) - 1).toNat = k - 1 + b.length - 1 := by omega
       have e3 : ((b.length : Int) - 1).toNat = b.length - 1 := by omega
       have e4 : ((k : Int) - 1 + (b.length : Int) - 2).toNat = k - 1 + b.length - 2 := by omega
       have e5 : ((b.length : Int) - 2).toNat = b.length - 2 := by omega
       simp only [e1, e2, e3, e4, e5] at *
       clear e1 e2 e3 e4 e5)
    | skip
  · exact ⟨⟨Nat.le_refl _, by simp, by simp⟩, lo_init la p2 hB⟩
  · (refine ent_ok [(448, 448), (576, 576)] rfl ?_ ?_ <;> simp only [memLe, slotsLe, AvLe, lk, ↓reduceIte, Nat.reduceEqDiff, Option.isSome_some, and_self, and_true, true_and, reduceCtorEq, List.map_nil, List.map_cons, Option.some.injEq, AV.v.injEq, Value.int.injEq, Value.bool.injEq, AV.rd.injEq, AV.ow.injEq, AV.al.injEq, AV.ref.injEq] <;> omega)
  · exact ⟨⟨(lim_get hs.lu).1, by omega⟩, lim_get hs.lu, by have := lim_get hs.lu (i := k - 1 + b.length); omega, (lim_get lb).2⟩
  · exact lg_init hs hk1 lb p2 hB (by omega)
  · (refine ent_ok [(448, 448), (576, 576)] rfl ?_ ?_ <;> simp only [memLe, slotsLe, AvLe, lk, ↓reduceIte, Nat.reduceEqDiff, Option.isSome_some, and_self, and_true, true_and, reduceCtorEq, List.map_nil, List.map_cons, Option.some.injEq, AV.v.injEq, Value.int.injEq, Value.bool.injEq, AV.rd.injEq, AV.ow.injEq, AV.al.injEq, AV.ref.injEq] <;> omega)
  · exact ⟨⟨by omega, by omega⟩, lim_get lb⟩
  · exact hj8 _ _ ⟨zg, zz.1, hz.ql⟩ (by (refine ent_ok [(448, 448), (576, 576)] rfl ?_ ?_ <;> simp only [memLe, slotsLe, AvLe, lk, ↓reduceIte, Nat.reduceEqDiff, Option.isSome_some, and_self, and_true, true_and, reduceCtorEq, List.map_nil, List.map_cons, Option.some.injEq, AV.v.injEq, Value.int.injEq, Value.bool.injEq, AV.rd.injEq, AV.ow.injEq, AV.al.injEq, AV.ref.injEq] <;> omega))
  · exact ⟨by omega, (lim_get lb).1⟩
  · have h4 := lim_get hs.lu (i := k - 1 + b.length - 2)
    have h5 := lim_get lb (i := b.length - 2)
    have h6 := lim_get lb (i := b.length - 1)
    obtain ⟨d1, d2⟩ := lg_dec hs hk1 lb p2 hB hz (by omega)
    exact hj8 _ _ ⟨zg - 1, by omega, d2.ql⟩ (by (refine ent_ok [(448, 448), (576, 576)] rfl ?_ ?_ <;> simp only [memLe, slotsLe, AvLe, lk, ↓reduceIte, Nat.reduceEqDiff, Option.isSome_some, and_self, and_true, true_and, reduceCtorEq, List.map_nil, List.map_cons, Option.some.injEq, AV.v.injEq, Value.int.injEq, Value.bool.injEq, AV.rd.injEq, AV.ow.injEq, AV.al.injEq, AV.ref.injEq] <;> omega))
  · have h4 := lim_get hs.lu (i := k - 1 + b.length - 2)
    have h5 := lim_get lb (i := b.length - 2)
    have h6 := lim_get lb (i := b.length - 1)
    obtain ⟨d1, d2⟩ := lg_dec hs hk1 lb p2 hB hz (by omega)
    exact ⟨(zg - 1, zr + (b.getD (b.length - 1) 0).toNat), (by (refine ent_ok [(448, 448), (576, 576)] rfl ?_ ?_ <;> simp only [memLe, slotsLe, AvLe, lk, ↓reduceIte, Nat.reduceEqDiff, Option.isSome_some, and_self, and_true, true_and, reduceCtorEq, List.map_nil, List.map_cons, Option.some.injEq, AV.v.injEq, Value.int.injEq, Value.bool.injEq, AV.rd.injEq, AV.ow.injEq, AV.al.injEq, AV.ref.injEq] <;> omega)), ⟨⟨by dsimp only; omega, by dsimp only; omega⟩, d2⟩, by dsimp only; omega⟩
  · exact ⟨by omega, (lim_get lb).1⟩
  · have h4 := lim_get hs.lu (i := k - 1 + b.length - 2)
    have h5 := lim_get lb (i := b.length - 2)
    have h6 := lim_get lb (i := b.length - 1)
    obtain ⟨d1, d2⟩ := lg_dec hs hk1 lb p2 hB hz (by omega)
    exact hj8 _ _ ⟨zg - 1, by omega, d2.ql⟩ (by (refine ent_ok [(448, 448), (576, 576)] rfl ?_ ?_ <;> simp only [memLe, slotsLe, AvLe, lk, ↓reduceIte, Nat.reduceEqDiff, Option.isSome_some, and_self, and_true, true_and, reduceCtorEq, List.map_nil, List.map_cons, Option.some.injEq, AV.v.injEq, Value.int.injEq, Value.bool.injEq, AV.rd.injEq, AV.ow.injEq, AV.al.injEq, AV.ref.injEq] <;> omega))
  · have h4 := lim_get hs.lu (i := k - 1 + b.length - 2)
    have h5 := lim_get lb (i := b.length - 2)
    have h6 := lim_get lb (i := b.length - 1)
    obtain ⟨d1, d2⟩ := lg_dec hs hk1 lb p2 hB hz (by omega)
    exact ⟨(zg - 1, zr + (b.getD (b.length - 1) 0).toNat), (by (refine ent_ok [(448, 448), (576, 576)] rfl ?_ ?_ <;> simp only [memLe, slotsLe, AvLe, lk, ↓reduceIte, Nat.reduceEqDiff, Option.isSome_some, and_self, and_true, true_and, reduceCtorEq, List.map_nil, List.map_cons, Option.some.injEq, AV.v.injEq, Value.int.injEq, Value.bool.injEq, AV.rd.injEq, AV.ow.injEq, AV.al.injEq, AV.ref.injEq] <;> omega)), ⟨⟨by dsimp only; omega, by dsimp only; omega⟩, d2⟩, by dsimp only; omega⟩
  · exact hj8 _ _ ⟨zg, zz.1, hz.ql⟩ (by (refine ent_ok [(448, 448), (576, 576)] rfl ?_ ?_ <;> simp only [memLe, slotsLe, AvLe, lk, ↓reduceIte, Nat.reduceEqDiff, Option.isSome_some, and_self, and_true, true_and, reduceCtorEq, List.map_nil, List.map_cons, Option.some.injEq, AV.v.injEq, Value.int.injEq, Value.bool.injEq, AV.rd.injEq, AV.ow.injEq, AV.al.injEq, AV.ref.injEq] <;> omega))
  · exact hj8 _ _ ⟨18446744073709551615, by omega, ql_top hs hk1 lb p2 hB⟩ (by (refine ent_ok [(448, 448), (576, 576)] rfl ?_ ?_ <;> simp only [memLe, slotsLe, AvLe, lk, ↓reduceIte, Nat.reduceEqDiff, Option.isSome_some, and_self, and_true, true_and, reduceCtorEq, List.map_nil, List.map_cons, Option.some.injEq, AV.v.injEq, Value.int.injEq, Value.bool.injEq, AV.rd.injEq, AV.ow.injEq, AV.al.injEq, AV.ref.injEq] <;> omega))
  · exact ⟨⟨Nat.zero_le _, by omega, by omega, by omega⟩, lm_init hs.lu⟩
  · (refine ent_ok [(448, 448), (576, 576)] rfl ?_ ?_ <;> simp only [memLe, slotsLe, AvLe, lk, ↓reduceIte, Nat.reduceEqDiff, Option.isSome_some, and_self, and_true, true_and, reduceCtorEq, List.map_nil, List.map_cons, Option.some.injEq, AV.v.injEq, Value.int.injEq, Value.bool.injEq, AV.rd.injEq, AV.ow.injEq, AV.al.injEq, AV.ref.injEq] <;> omega)
  · exact ⟨⟨by omega, by omega⟩, lim_get lb⟩
  · have e6 : ((k : Int) - 1 + (ei : Int)).toNat = k - 1 + ei := by omega
    have h4 := lim_get he.lu (i := k - 1 + ei)
    rw [e6]
    omega
  · have e6 : ((k : Int) - 1 + (ei : Int)).toNat = k - 1 + ei := by omega
    have h4 := lim_get he.lu (i := k - 1 + ei)
    rw [e6]
    obtain ⟨c', w', s', f1, f2, f3, f4, f5, f6, f7⟩ := sub_word (pr := g * (b.getD ei 0).toNat) (c := ec) (w := ew) (x := eu.getD (k - 1 + ei) 0) (prod_le gg (by have := lim_get lb (i := ei); omega)) (by omega) (by omega) h4
    rw [f1, f2, f3]
    exact ⟨(ei + 1, c', w', eu.set (k - 1 + ei) (s' : Int)), (by (refine ent_ok [(448, 448), (576, 576)] rfl ?_ ?_ <;> simp only [memLe, slotsLe, AvLe, lk, ↓reduceIte, Nat.reduceEqDiff, Option.isSome_some, and_self, and_true, true_and, reduceCtorEq, List.map_nil, List.map_cons, Option.some.injEq, AV.v.injEq, Value.int.injEq, Value.bool.injEq, AV.rd.injEq, AV.ow.injEq, AV.al.injEq, AV.ref.injEq] <;> omega)), ⟨⟨by dsimp only; omega, f5, f6, by simp; omega⟩, lm_step he (by omega) f7 f4⟩, by dsimp only; omega⟩
  · have h4 := lim_get he.lu (i := k - 1 + b.length)
    omega
  · have h4 := lim_get he.lu (i := k - 1 + b.length)
    have hei : ei = b.length := by omega
    subst hei
    obtain ⟨w', s', f1, f2, f3, f4, f5⟩ := sub_last (c := ec) (w := ew) (x := eu.getD (k - 1 + b.length) 0) (by omega) (by omega) h4
    rw [f1, f2]
    exact hj27 _ _ ⟨(w', eu.set (k - 1 + b.length) (s' : Int)), ⟨f4, by simp; omega⟩, lm_last he hg (by omega) f5 f3⟩ (by (refine ent_ok [(448, 448), (576, 576)] rfl ?_ ?_ <;> simp only [memLe, slotsLe, AvLe, lk, ↓reduceIte, Nat.reduceEqDiff, Option.isSome_some, and_self, and_true, true_and, reduceCtorEq, List.map_nil, List.map_cons, Option.some.injEq, AV.v.injEq, Value.int.injEq, Value.bool.injEq, AV.rd.injEq, AV.ow.injEq, AV.al.injEq, AV.ref.injEq] <;> omega))
  · exact ⟨⟨gg, tt.1, tt.2⟩, ht⟩
  · exact ⟨⟨Nat.zero_le _, by omega, by omega⟩, lx_init hy.lu⟩
  · have hyw : yw = 1 := by omega
    subst hyw
    have h6 := ly_pos hs hk1 lb p2 hB hy
    (refine ent_ok [(448, 448), (576, 576)] rfl ?_ ?_ <;> simp only [memLe, slotsLe, AvLe, lk, ↓reduceIte, Nat.reduceEqDiff, Option.isSome_some, and_self, and_true, true_and, reduceCtorEq, List.map_nil, List.map_cons, Option.some.injEq, AV.v.injEq, Value.int.injEq, Value.bool.injEq, AV.rd.injEq, AV.ow.injEq, AV.al.injEq, AV.ref.injEq] <;> omega)
  · have e6 : ((k : Int) - 1 + (xi : Int)).toNat = k - 1 + xi := by omega
    have h4 := lim_get hx.lu (i := k - 1 + xi)
    have h5 := lim_get lb (i := xi)
    rw [e6]
    omega
  · have e6 : ((k : Int) - 1 + (xi : Int)).toNat = k - 1 + xi := by omega
    have h4 := lim_get hx.lu (i := k - 1 + xi)
    have h5 := lim_get lb (i := xi)
    rw [e6]
    obtain ⟨c', s', f1, f2, f3, f4, f5⟩ := add_word (c := xc) (by omega) h4 h5
    rw [f1, f2]
    exact ⟨(xi + 1, c', xu.set (k - 1 + xi) (s' : Int)), (by (refine ent_ok [(448, 448), (576, 576)] rfl ?_ ?_ <;> simp only [memLe, slotsLe, AvLe, lk, ↓reduceIte, Nat.reduceEqDiff, Option.isSome_some, and_self, and_true, true_and, reduceCtorEq, List.map_nil, List.map_cons, Option.some.injEq, AV.v.injEq, Value.int.injEq, Value.bool.injEq, AV.rd.injEq, AV.ow.injEq, AV.al.injEq, AV.ref.injEq] <;> omega)), ⟨⟨by dsimp only; omega, f4, by simp; omega⟩, lx_step hx (by omega) f5 f3⟩, by dsimp only; omega⟩
  · have h4 := lim_get hx.lu (i := k - 1 + b.length)
    omega
  · have h4 := lim_get hx.lu (i := k - 1 + b.length)
    have hxi : xi = b.length := by omega
    subst hxi
    have hyw : yw = 1 := by omega
    subst hyw
    obtain ⟨c', s', f1, f2, f3, f4, f5⟩ := add_word (c := xc) (y := 0) (by omega) h4 ⟨by omega, by omega⟩
    have h6 := ly_pos hs hk1 lb p2 hB hy
    rw [f1, f2]
    exact ⟨(yg - 1, 1 - c', xu.set (k - 1 + b.length) (s' : Int)), (by (refine ent_ok [(448, 448), (576, 576)] rfl ?_ ?_ <;> simp only [memLe, slotsLe, AvLe, lk, ↓reduceIte, Nat.reduceEqDiff, Option.isSome_some, and_self, and_true, true_and, reduceCtorEq, List.map_nil, List.map_cons, Option.some.injEq, AV.v.injEq, Value.int.injEq, Value.bool.injEq, AV.rd.injEq, AV.ow.injEq, AV.al.injEq, AV.ref.injEq] <;> omega)), ⟨⟨by dsimp only; omega, by dsimp only; omega, by simp; omega⟩, lx_last hs hk1 lb p2 hB hy hx (by omega) f5 f4 f3⟩, by dsimp only; omega⟩
  · have hyw : yw = 0 := by omega
    subst hyw
    have e8 : ((k : Int) - 1).toNat = k - 1 := by omega
    rw [e8]
    exact ⟨(k - 1, yu, q.set (k - 1) (yg : Int)), (by (refine ent_ok [(448, 448), (576, 576)] rfl ?_ ?_ <;> simp only [memLe, slotsLe, AvLe, lk, ↓reduceIte, Nat.reduceEqDiff, Option.isSome_some, and_self, and_true, true_and, reduceCtorEq, List.map_nil, List.map_cons, Option.some.injEq, AV.v.injEq, Value.int.injEq, Value.bool.injEq, AV.rd.injEq, AV.ow.injEq, AV.al.injEq, AV.ref.injEq] <;> omega)), ⟨⟨by dsimp only; omega, by dsimp only; omega, by simp; omega⟩, lo_next hs hk1 lb p2 hB yy.1 hy (by omega)⟩, by dsimp only; omega⟩
  · have h6 := sz_le q
    omega
  · rw [List.length_take]; omega
  · have h6 := sz_le (List.take (min (b.length : Int) (u.length : Int)).toNat u)
    rw [List.length_take] at h6
    omega
  · have hk0 : k = 0 := by omega
    subst hk0
    obtain ⟨r1, r2, r3⟩ := lo_fin hs lb hB
    have e : sz (List.take (min (b.length : Int) (u.length : Int)).toNat u) = sz u := by
      by_cases h : b.length ≤ u.length
      · rw [show (min (b.length : Int) (u.length : Int)).toNat = b.length by omega]; exact r3
      · rw [show (min (b.length : Int) (u.length : Int)).toNat = u.length by omega, List.take_length]
    rw [e, take_sz hs.lq, take_sz hs.lu, r1, r2]
    all_goals exact ⟨rfl, rfl⟩
theorem sound_106 : Sound Try.prog 106 .body (norm s106) := by
  refine sound_norm (sound_body Try.func106 (show Try.f106.body = some (code Try.f106) from rfl) (by kernel_rfl) tysOk G106_ok (drawOk_ok (by kernel_rfl) tysOk G106_ok) (by kernel_rfl) fun ds p r hs hp => ?_)
  unfold s106 at hs
  split at hs
  · cases hs; exact ⟨Nat.le_of_ble_eq_true (by kernel_rfl), w106 _ _ hp⟩
  · cases hs
end Go.Proofs.AMT
