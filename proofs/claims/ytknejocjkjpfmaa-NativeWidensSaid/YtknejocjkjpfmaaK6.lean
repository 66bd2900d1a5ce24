/- Part 6 of the proof: own text (A3, A4, LN4, A5, A6, LN5, A7, LN6, A8). -/
import Derived.Test.YtknejocjkjpfmaaK0
import Derived.Test.YtknejocjkjpfmaaK1
import Derived.Test.YtknejocjkjpfmaaK2
import Derived.Test.YtknejocjkjpfmaaK3
import Derived.Test.YtknejocjkjpfmaaK4
import Derived.Test.YtknejocjkjpfmaaK5
set_option linter.all false
set_option maxRecDepth 20000
namespace Go.Proofs.AMT
open Go.AM Go.AM.LN
attribute [local congr] bindO_congr bindS_congr bindG_congr awpOps_congr aOne_congr awp_congr aCond_congr awpD_congr dOne_congr keysB_congr nOne_congr thenP_congr blockP_congr Chk_congr Brk_congr
noncomputable def s78 : CSpec := fun ds => match ds with
  | [.sl .u64 a, .sl .u64 b] => some ((lim a ∧ a.length ≤ 90000000) ∧ lim b ∧ b.length ≤ 90000000, .one (.fresh .u64 (limbs (val a + val b))))
  | _ => none
theorem s78_eq (a : List Int) (b : List Int) : norm s78 [.sl .u64 a, .sl .u64 b] = some ((lim a ∧ a.length ≤ 90000000) ∧ lim b ∧ b.length ≤ 90000000, .one (.fresh .u64 (limbs (val a + val b)))) := rfl
theorem s78_nil1  (b : List Int) : norm s78 [.v (.slice none 0 0), .sl .u64 b] = some ((lim ([] : List Int) ∧ ([] : List Int).length ≤ 90000000) ∧ lim b ∧ b.length ≤ 90000000, .one (.fresh .u64 (limbs (val ([] : List Int) + val b)))) := rfl
theorem s78_nil2 (a : List Int)  : norm s78 [.sl .u64 a, .v (.slice none 0 0)] = some ((lim a ∧ a.length ≤ 90000000) ∧ lim ([] : List Int) ∧ ([] : List Int).length ≤ 90000000, .one (.fresh .u64 (limbs (val a + val ([] : List Int))))) := rfl
theorem s78_nil3   : norm s78 [.v (.slice none 0 0), .v (.slice none 0 0)] = some ((lim ([] : List Int) ∧ ([] : List Int).length ≤ 90000000) ∧ lim ([] : List Int) ∧ ([] : List Int).length ≤ 90000000, .one (.fresh .u64 (limbs (val ([] : List Int) + val ([] : List Int))))) := rfl
theorem k78_71 : lk G46 71 = some (.body, norm s71) := rfl
theorem k78_99 : lk G46 99 = some (.ext, sAdd64) := rfl
set_option maxHeartbeats 20000000 in
theorem w78 (a : List Int) (b : List Int) (hp : (lim a ∧ a.length ≤ 90000000) ∧ lim b ∧ b.length ≤ 90000000) : awp ty G46 (code Try.f78) (retP ty Try.f78.results.toList (.one (.fresh .u64 (limbs (val a + val b))))) (entry 0 [.sl .u64 a, .sl .u64 b]) [] := by
  unfold code
  simp only [Try.f78, Option.getD_some]
  have za := sz_le a
  have zb := sz_le b
  have ya := len_limbs_sz hp.1.1
  have yb := len_limbs_sz hp.2.1
  all_goals repeat' (first
    | ((first
       | (with_reducible refine ops_k ?_; intro X hX)
       | (with_reducible refine opsN_k ?_; intro X hX)
       | (with_reducible show awp _ _ _ _ (keepL _ _) _)
       | with_reducible refine awp_cond_k ?_
       | (with_reducible refine Brk_i ?_ ?_ <;> intro hb <;> (try simp only [hb]) <;> have hq := hb <;> try simp only [decide_eq_true_eq, decide_eq_false_iff_not, gt_iff_lt, ge_iff_le, Int.not_lt, Int.not_le, beq_iff_eq, beq_eq_false_iff_ne, Bool.not_eq_true', Bool.not_eq_false', Bool.and_eq_true, Bool.or_eq_true, Bool.and_eq_false_imp, Bool.or_eq_false_iff, ne_eq, Classical.not_not] at hq)
       | with_reducible refine retP_ret_i ?_
       | with_reducible refine retP_normal_i ?_
       | (with_reducible (show bindG _ _ _ _ _); simp only [hall])) <;> try simp only [Go.AM.S1, Go.AM.S2, Go.AM.S3, Go.AM.S4, Go.AM.S5, Go.AM.S6, Go.AM.S7, Go.AM.S8, Go.AM.S9, Nat.reduceAdd, Nat.reduceMul, Nat.reduceSub, ↓reduceIte, Nat.reduceEqDiff, Nat.reduceLT, Nat.reduceLeDiff, reduceCtorEq, Int.reduceBEq, Int.reduceBNe, Nat.reduceBEq, Int.reduceEq, Int.reduceToNat, Int.reduceLE, Int.reduceLT, Nat.reduceDiv, Int.reduceAdd, Int.reduceSub, Int.reduceMul, Int.reduceNeg, Int.reduceGT, Int.reduceGE, Nat.reduceMod, k78_71, s71_eq, s71_nil1, k78_99, sAdd64_eq, ty_3, ty_26, ty_42, take_sz hp.1.1, take_sz hp.2.1])
    | (with_reducible refine hX _ _ ?_; clear hX X)
    | with_reducible refine ops_nil_i ?_
    | with_reducible refine opsN_nil_i ?_
    | (with_reducible refine hK _ _ ?_; clear hK K)
    | with_reducible refine thenP_normal_i ?_
    | with_reducible refine zzr15 _ _ ?_
    | with_reducible refine zzr14 _ _ ?_
    | with_reducible refine zzsr6 _ _ ?_
    | with_reducible refine zzb1 _ _ ?_
    | with_reducible refine zzsr10 _ _ ?_
    | with_reducible refine zzr10 _ _ ?_
    | with_reducible refine zzr9 _ _ ?_
    | with_reducible refine zzr8 _ _ ?_
    | with_reducible refine zzctmp32 _ _ ?_
    | with_reducible refine zzr7 _ _ ?_
    | with_reducible refine zzr6 _ _ ?_
    | with_reducible refine zzr5 _ _ ?_
    | with_reducible refine zzr4 _ _ ?_
    | with_reducible refine zzsr2 _ _ ?_
    | with_reducible refine zzr2 _ _ ?_
    | with_reducible refine zzr1 _ _ ?_
    | with_reducible refine zzr0 _ _ ?_
    | (with_reducible refine awp_seq_j (a := .seq (.region 2 _ _) _) (ι := {p : Nat × Nat // p.1 + p.2 = val a + val b ∧ (limbs p.2).length ≤ (limbs p.1).length ∧ (limbs p.1).length ≤ 90000000}) (fun j => [(0, .rd .u64 (limbs j.1.1)), (1, .rd .u64 (limbs j.1.2))]) (fun _ => []) (fun ⟨⟨x, y⟩, hj⟩ => ?_) ?_; rotate_left; intro Kj hj22)
    | (with_reducible refine awp_lp (σ := Nat × Nat × List Int) (fun s => s.1 ≤ (limbs x).length ∧ s.2.1 ≤ 1 ∧ lim s.2.2 ∧ s.2.2.length = (limbs x).length + 1 ∧ val (s.2.2.take s.1) + s.2.1 * 2 ^ (64 * s.1) = val ((limbs x).take s.1) + val ((limbs y).take s.1)) (fun s => [(0, .rd .u64 (limbs x)), (1, .rd .u64 (limbs y)), (5, .ow 448), (6, .v (.int .u64 s.2.1)), (29, .rd .u64 (limbs x)), (30, .v (.int .i64 (limbs x).length)), (31, .v (.int .i64 s.1))]) (fun s => [(448, .ints .u64 s.2.2, false)]) (fun s => (limbs x).length - s.1) (0, 0, List.replicate ((limbs x).length + 1) 0) ?_ ?_ (fun s hs => ?_))
    | (with_reducible refine awp_seq_l (a := .region 15 _ _) [4] ?_; intro Kzzr15 zzr15)
    | (with_reducible refine awp_seq_l (a := .region 14 _ _) [5] ?_; intro Kzzr14 zzr14)
    | (with_reducible refine awp_seq_l (a := .seq (.region 6 _ _) _) [0, 5, 6] ?_; intro Kzzsr6 zzsr6)
    | (with_reducible refine awp_seq_l (a := .block 1 _) [0, 1, 5, 6, 29, 30, 31] ?_; intro Kzzb1 zzb1)
    | (with_reducible refine awp_seq_l (a := .seq (.region 10 _ _) _) [0, 1, 5, 6, 7, 8, 9, 29, 30, 31] ?_; intro Kzzsr10 zzsr10)
    | (with_reducible refine awp_seq_l (a := .region 10 _ _) [0, 1, 5, 6, 7, 8, 9, 29, 30, 31, 39] ?_; intro Kzzr10 zzr10)
    | (with_reducible refine awp_seq_l (a := .region 9 _ _) [0, 1, 5, 6, 7, 8, 9, 29, 30, 31] ?_; intro Kzzr9 zzr9)
    | (with_reducible refine awp_seq_l (a := .region 8 _ _) [0, 1, 5, 6, 7, 8, 29, 30, 31] ?_; intro Kzzr8 zzr8)
    | (with_reducible refine awp_seq_l (a := .cond (.tmp 32) _ _) [0, 1, 5, 6, 29, 30, 31] ?_; intro Kzzctmp32 zzctmp32)
    | (with_reducible refine awp_seq_l (a := .region 7 _ _) [0, 1, 5, 6, 29, 30, 31, 32] ?_; intro Kzzr7 zzr7)
    | (with_reducible refine awp_seq_l (a := .region 6 _ _) [0, 1, 5, 6, 29, 30, 31] ?_; intro Kzzr6 zzr6)
    | (with_reducible refine awp_seq_l (a := .region 5 _ _) [0, 1, 5, 6] ?_; intro Kzzr5 zzr5)
    | (with_reducible refine awp_seq_l (a := .region 4 _ _) [0, 1, 5] ?_; intro Kzzr4 zzr4)
    | (with_reducible refine awp_seq_l (a := .seq (.region 2 _ _) _) [0, 1] ?_; intro Kzzsr2 zzsr2)
    | (with_reducible refine awp_seq_l (a := .region 2 _ _) [0, 1, 22] ?_; intro Kzzr2 zzr2)
    | (with_reducible refine awp_seq_l (a := .region 1 _ _) [0, 1] ?_; intro Kzzr1 zzr1)
    | (with_reducible refine awp_seq_l (a := .region 0 _ _) [0, 1] ?_; intro Kzzr0 zzr0)
    | (with_reducible refine awp_seq_k ?_; intro K hK)
    | (with_reducible refine awp_region_a ?_; intro all hall K hK)
    | (with_reducible refine awp_draw_n ?_ ?_; kernel_rfl; intro all hall K hK)
    | (with_reducible refine Chk_i ?_ ?_)
    | (with_reducible refine keysC_i ?_; kernel_rfl)
    | (with_reducible first | refine awp_block_i ?_ | refine awp_skip_i ?_ | refine awp_ret_i ?_ | refine awp_exit_i ?_ | refine thenP_ret_i ?_ | refine thenP_exit_i ?_ | refine lpP_ret_i ?_ | refine lpP_exit_i ?_ | refine unrP_succ_i ?_ | refine unrP_ret_i ?_ | refine unrP_exit_i ?_ | refine blockP_normal_i ?_ | refine blockP_ret_i ?_)
    | (with_reducible refine blockP_exit_i ?_; simp only [↓reduceIte, Nat.reduceEqDiff])
    | with_reducible refine lpP_normal_i ?_)
  all_goals (try (rcases s with ⟨i, c, o⟩))
  all_goals (try dsimp only at *)
  all_goals (try simp only [inR])
  all_goals (try omega)
  · exact hj22 _ _ ⟨(val b, val a), by dsimp only; omega, by dsimp only; omega, by dsimp only; omega⟩ (by (refine ent_ok [] rfl ?_ ?_ <;> simp only [memLe, slotsLe, AvLe, lk, ↓reduceIte, Nat.reduceEqDiff, Option.isSome_some, and_self, and_true, true_and, reduceCtorEq, List.map_nil, List.map_cons, Option.some.injEq, AV.v.injEq, Value.int.injEq, Value.bool.injEq, AV.rd.injEq, AV.ow.injEq, AV.al.injEq, AV.ref.injEq] <;> omega))
  · exact hj22 _ _ ⟨(val a, val b), rfl, by dsimp only; omega, by dsimp only; omega⟩ (by (refine ent_ok [] rfl ?_ ?_ <;> simp only [memLe, slotsLe, AvLe, lk, ↓reduceIte, Nat.reduceEqDiff, Option.isSome_some, and_self, and_true, true_and, reduceCtorEq, List.map_nil, List.map_cons, Option.some.injEq, AV.v.injEq, Value.int.injEq, Value.bool.injEq, AV.rd.injEq, AV.ow.injEq, AV.al.injEq, AV.ref.injEq] <;> omega))
  · exact ⟨Nat.zero_le _, by omega, lim_rep _, by simp, by simp [val]⟩
  · have e : (((limbs x).length : Int) + 1).toNat = (limbs x).length + 1 := by omega
    rw [e]; exact Ent.refl _ _
  · have h1 := lim_get (lim_limbs x) (i := i)
    have h2 := lim_get (lim_limbs y) (i := i)
    omega
  · have h1 := lim_get (lim_limbs x) (i := i)
    have h2 := lim_get (lim_limbs y) (i := i)
    refine ⟨(i + 1, (((limbs x).getD i 0 + (limbs y).getD i 0 + (c : Int)) / 18446744073709551616).toNat, o.set i (((limbs x).getD i 0 + (limbs y).getD i 0 + (c : Int)) % 18446744073709551616)), by (refine ent_ok [(448, 448)] rfl ?_ ?_ <;> simp only [memLe, slotsLe, AvLe, lk, ↓reduceIte, Nat.reduceEqDiff, Option.isSome_some, and_self, and_true, true_and, reduceCtorEq, List.map_nil, List.map_cons, Option.some.injEq, AV.v.injEq, Value.int.injEq, Value.bool.injEq, AV.rd.injEq, AV.ow.injEq, AV.al.injEq, AV.ref.injEq] <;> omega), ⟨by dsimp only; omega, by dsimp only; omega, lim_set hs.2.2.1 (by omega) i, by simp [hs.2.2.2.1], add_step (lim_limbs x) (lim_limbs y) (by omega) hs.2.2.2.2⟩, by dsimp only; omega⟩
  · have h1 := lim_get (lim_limbs x) (i := i)
    omega
  · have h1 := lim_get (lim_limbs x) (i := i)
    have h2 : (limbs y).getD i 0 = 0 := getD_out (by omega)
    have h4 : (limbs x).getD i 0 + 0 + (c : Int) = (limbs x).getD i 0 + (limbs y).getD i 0 + (c : Int) := by rw [h2]
    rw [h4]
    have h3 := lim_get (lim_limbs y) (i := i)
    refine ⟨(i + 1, (((limbs x).getD i 0 + (limbs y).getD i 0 + (c : Int)) / 18446744073709551616).toNat, o.set i (((limbs x).getD i 0 + (limbs y).getD i 0 + (c : Int)) % 18446744073709551616)), by (refine ent_ok [(448, 448)] rfl ?_ ?_ <;> simp only [memLe, slotsLe, AvLe, lk, ↓reduceIte, Nat.reduceEqDiff, Option.isSome_some, and_self, and_true, true_and, reduceCtorEq, List.map_nil, List.map_cons, Option.some.injEq, AV.v.injEq, Value.int.injEq, Value.bool.injEq, AV.rd.injEq, AV.ow.injEq, AV.al.injEq, AV.ref.injEq] <;> omega), ⟨by dsimp only; omega, by dsimp only; omega, lim_set hs.2.2.1 (by omega) i, by simp [hs.2.2.2.1], add_step (lim_limbs x) (lim_limbs y) (by omega) hs.2.2.2.2⟩, by dsimp only; omega⟩
  all_goals (have hi : i = (limbs x).length := by omega)
  all_goals (subst hi)
  all_goals (have hz := sz_le (o.set (limbs x).length (c : Int)))
  all_goals (have hlen : (o.set (limbs x).length (c : Int)).length = (limbs x).length + 1 := by simp [hs.2.2.2.1])
  all_goals (try omega)
  all_goals (have h5 := hs.2.2.2.2)
  all_goals (rw [List.take_length, val_limbs, List.take_of_length_le hj.2.1, val_limbs] at h5)
  all_goals (have hv : val (o.set (limbs x).length (c : Int)) = val a + val b := by rw [val_set_last hs.2.2.2.1, ← hj.1, Int.toNat_natCast, Nat.mul_comm]; exact h5)
  all_goals (try omega)
  all_goals (rw [← hv, ← take_sz (lim_set hs.2.2.1 (by omega) _)])
theorem sound_78 : Sound Try.prog 78 .body (norm s78) := by
  refine sound_norm (sound_body Try.func78 (show Try.f78.body = some (code Try.f78) from rfl) (by kernel_rfl) tysOk G46_ok (drawOk_ok (by kernel_rfl) tysOk G46_ok) (by kernel_rfl) fun ds p r hs hp => ?_)
  unfold s78 at hs
  split at hs
  · cases hs; exact ⟨Nat.le_of_ble_eq_true (by kernel_rfl), w78 _ _ hp⟩
  · cases hs
noncomputable def G78 : Gam := (78, .body, norm s78) :: G46
theorem G78_ok : GamOk Try.prog G78 := gamOk_cons sound_78 G46_ok
end Go.Proofs.AMT
set_option maxRecDepth 20000
namespace Go.Proofs.AMT
open Go.AM Go.AM.LN
attribute [local congr] bindO_congr bindS_congr bindG_congr awpOps_congr aOne_congr awp_congr aCond_congr awpD_congr dOne_congr keysB_congr nOne_congr thenP_congr blockP_congr Chk_congr Brk_congr
noncomputable def s76 : CSpec := fun ds => match ds with
  | [.sl .u64 a, .sl .u64 b] => some ((lim a ∧ a.length ≤ 90000000) ∧ (lim b ∧ b.length ≤ 90000000) ∧ val b ≤ val a, .many [.fresh .u64 (limbs (val a - val b)), .v (.int .i64 0)])
  | _ => none
theorem s76_eq (a : List Int) (b : List Int) : norm s76 [.sl .u64 a, .sl .u64 b] = some ((lim a ∧ a.length ≤ 90000000) ∧ (lim b ∧ b.length ≤ 90000000) ∧ val b ≤ val a, .many [.fresh .u64 (limbs (val a - val b)), .v (.int .i64 0)]) := rfl
theorem s76_nil1  (b : List Int) : norm s76 [.v (.slice none 0 0), .sl .u64 b] = some ((lim ([] : List Int) ∧ ([] : List Int).length ≤ 90000000) ∧ (lim b ∧ b.length ≤ 90000000) ∧ val b ≤ val ([] : List Int), .many [.fresh .u64 (limbs (val ([] : List Int) - val b)), .v (.int .i64 0)]) := rfl
theorem s76_nil2 (a : List Int)  : norm s76 [.sl .u64 a, .v (.slice none 0 0)] = some ((lim a ∧ a.length ≤ 90000000) ∧ (lim ([] : List Int) ∧ ([] : List Int).length ≤ 90000000) ∧ val ([] : List Int) ≤ val a, .many [.fresh .u64 (limbs (val a - val ([] : List Int))), .v (.int .i64 0)]) := rfl
theorem s76_nil3   : norm s76 [.v (.slice none 0 0), .v (.slice none 0 0)] = some ((lim ([] : List Int) ∧ ([] : List Int).length ≤ 90000000) ∧ (lim ([] : List Int) ∧ ([] : List Int).length ≤ 90000000) ∧ val ([] : List Int) ≤ val ([] : List Int), .many [.fresh .u64 (limbs (val ([] : List Int) - val ([] : List Int))), .v (.int .i64 0)]) := rfl
theorem k76_43 : lk G78 43 = some (.body, norm s43) := rfl
theorem k76_46 : lk G78 46 = some (.body, norm s46) := rfl
theorem k76_71 : lk G78 71 = some (.body, norm s71) := rfl
theorem k76_98 : lk G78 98 = some (.ext, sSub64) := rfl
set_option maxHeartbeats 20000000 in
theorem w76 (a : List Int) (b : List Int) (hp : (lim a ∧ a.length ≤ 90000000) ∧ (lim b ∧ b.length ≤ 90000000) ∧ val b ≤ val a) : awp ty G78 (code Try.f76) (retP ty Try.f76.results.toList (.many [.fresh .u64 (limbs (val a - val b)), .v (.int .i64 0)])) (entry 0 [.sl .u64 a, .sl .u64 b]) [] := by
  unfold code
  simp only [Try.f76, Option.getD_some]
  have ya := len_limbs_sz hp.1.1
  have za := sz_le a
  have hc : decide (cmpI (val a) (val b) < 0) = false := by simp only [cmpI_neg, decide_eq_false_iff_not]; omega
  all_goals repeat' (first
    | ((first
       | (with_reducible refine ops_k ?_; intro X hX)
       | (with_reducible refine opsN_k ?_; intro X hX)
       | (with_reducible show awp _ _ _ _ (keepL _ _) _)
       | with_reducible refine awp_cond_k ?_
       | (with_reducible refine Brk_i ?_ ?_ <;> intro hb <;> (try simp only [hb]) <;> have hq := hb <;> try simp only [decide_eq_true_eq, decide_eq_false_iff_not, gt_iff_lt, ge_iff_le, Int.not_lt, Int.not_le, beq_iff_eq, beq_eq_false_iff_ne, Bool.not_eq_true', Bool.not_eq_false', Bool.and_eq_true, Bool.or_eq_true, Bool.and_eq_false_imp, Bool.or_eq_false_iff, ne_eq, Classical.not_not] at hq)
       | with_reducible refine retP_ret_i ?_
       | with_reducible refine retP_normal_i ?_
       | (with_reducible (show bindG _ _ _ _ _); simp only [hall])) <;> try simp only [Go.AM.S1, Go.AM.S2, Go.AM.S3, Go.AM.S4, Go.AM.S5, Go.AM.S6, Go.AM.S7, Go.AM.S8, Go.AM.S9, Nat.reduceAdd, Nat.reduceMul, Nat.reduceSub, ↓reduceIte, Nat.reduceEqDiff, Nat.reduceLT, Nat.reduceLeDiff, reduceCtorEq, Int.reduceBEq, Int.reduceBNe, Nat.reduceBEq, Int.reduceEq, Int.reduceToNat, Int.reduceLE, Int.reduceLT, Nat.reduceDiv, Int.reduceAdd, Int.reduceSub, Int.reduceMul, Int.reduceNeg, Int.reduceGT, Int.reduceGE, Nat.reduceMod, k76_43, s43_eq, s43_nil1, k76_46, s46_eq, s46_nil1, s46_nil2, s46_nil3, k76_71, s71_eq, s71_nil1, k76_98, sSub64_eq, ty_3, ty_26, ty_42, hc])
    | (with_reducible refine hX _ _ ?_; clear hX X)
    | with_reducible refine ops_nil_i ?_
    | with_reducible refine opsN_nil_i ?_
    | (with_reducible refine hK _ _ ?_; clear hK K)
    | with_reducible refine thenP_normal_i ?_
    | with_reducible refine zzr13 _ _ ?_
    | with_reducible refine zzsr5 _ _ ?_
    | with_reducible refine zzb1 _ _ ?_
    | with_reducible refine zzsr9 _ _ ?_
    | with_reducible refine zzr9 _ _ ?_
    | with_reducible refine zzr8 _ _ ?_
    | with_reducible refine zzr7 _ _ ?_
    | with_reducible refine zzctmp19 _ _ ?_
    | with_reducible refine zzr6 _ _ ?_
    | with_reducible refine zzr5 _ _ ?_
    | with_reducible refine zzr4 _ _ ?_
    | with_reducible refine zzr3 _ _ ?_
    | with_reducible refine zzsr1 _ _ ?_
    | with_reducible refine zzr2 _ _ ?_
    | with_reducible refine zzr1 _ _ ?_
    | with_reducible refine zzr0 _ _ ?_
    | (with_reducible refine awp_lp (σ := Nat × Nat × List Int) (fun s => s.1 ≤ (limbs (val a)).length ∧ s.2.1 ≤ 1 ∧ lim s.2.2 ∧ s.2.2.length = (limbs (val a)).length ∧ s.2.2.drop s.1 = (limbs (val a)).drop s.1 ∧ val (s.2.2.take s.1) + val (b.take s.1) = val ((limbs (val a)).take s.1) + s.2.1 * 2 ^ (64 * s.1)) (fun s => [(1, .rd .u64 b), (6, .ow 240), (7, .v (.int .u64 s.2.1)), (17, .v (.int .i64 (limbs (val a)).length)), (18, .v (.int .i64 s.1))]) (fun s => [(240, .ints .u64 s.2.2, false)]) (fun s => (limbs (val a)).length - s.1) (0, 0, limbs (val a)) ?_ ?_ (fun s hs => ?_))
    | (with_reducible refine awp_seq_l (a := .region 13 _ _) [4, 5] ?_; intro Kzzr13 zzr13)
    | (with_reducible refine awp_seq_l (a := .seq (.region 5 _ _) _) [6] ?_; intro Kzzsr5 zzsr5)
    | (with_reducible refine awp_seq_l (a := .block 1 _) [1, 6, 7, 17, 18] ?_; intro Kzzb1 zzb1)
    | (with_reducible refine awp_seq_l (a := .seq (.region 9 _ _) _) [1, 6, 7, 8, 9, 17, 18] ?_; intro Kzzsr9 zzsr9)
    | (with_reducible refine awp_seq_l (a := .region 9 _ _) [1, 6, 7, 8, 9, 17, 18, 24] ?_; intro Kzzr9 zzr9)
    | (with_reducible refine awp_seq_l (a := .region 8 _ _) [1, 6, 7, 8, 9, 17, 18] ?_; intro Kzzr8 zzr8)
    | (with_reducible refine awp_seq_l (a := .region 7 _ _) [1, 6, 7, 8, 17, 18] ?_; intro Kzzr7 zzr7)
    | (with_reducible refine awp_seq_l (a := .cond (.tmp 19) _ _) [1, 6, 7, 17, 18] ?_; intro Kzzctmp19 zzctmp19)
    | (with_reducible refine awp_seq_l (a := .region 6 _ _) [1, 6, 7, 17, 18, 19] ?_; intro Kzzr6 zzr6)
    | (with_reducible refine awp_seq_l (a := .region 5 _ _) [1, 6, 7, 17, 18] ?_; intro Kzzr5 zzr5)
    | (with_reducible refine awp_seq_l (a := .region 4 _ _) [1, 6, 7] ?_; intro Kzzr4 zzr4)
    | (with_reducible refine awp_seq_l (a := .region 3 _ _) [1, 6] ?_; intro Kzzr3 zzr3)
    | (with_reducible refine awp_seq_l (a := .seq (.region 1 _ _) _) [0, 1] ?_; intro Kzzsr1 zzsr1)
    | (with_reducible refine awp_seq_l (a := .region 2 _ _) [4, 5] ?_; intro Kzzr2 zzr2)
    | (with_reducible refine awp_seq_l (a := .region 1 _ _) [0, 1, 13] ?_; intro Kzzr1 zzr1)
    | (with_reducible refine awp_seq_l (a := .region 0 _ _) [0, 1] ?_; intro Kzzr0 zzr0)
    | (with_reducible refine awp_seq_k ?_; intro K hK)
    | (with_reducible refine awp_region_a ?_; intro all hall K hK)
    | (with_reducible refine awp_draw_n ?_ ?_; kernel_rfl; intro all hall K hK)
    | (with_reducible refine Chk_i ?_ ?_)
    | (with_reducible refine keysC_i ?_; kernel_rfl)
    | (with_reducible first | refine awp_block_i ?_ | refine awp_skip_i ?_ | refine awp_ret_i ?_ | refine awp_exit_i ?_ | refine thenP_ret_i ?_ | refine thenP_exit_i ?_ | refine lpP_ret_i ?_ | refine lpP_exit_i ?_ | refine unrP_succ_i ?_ | refine unrP_ret_i ?_ | refine unrP_exit_i ?_ | refine blockP_normal_i ?_ | refine blockP_ret_i ?_)
    | (with_reducible refine blockP_exit_i ?_; simp only [↓reduceIte, Nat.reduceEqDiff])
    | with_reducible refine lpP_normal_i ?_)
  all_goals (try (rcases s with ⟨i, c, o⟩))
  all_goals (try dsimp only at *)
  all_goals (try simp only [inR])
  all_goals (try omega)
  · exact ⟨⟨hp.1.1, by omega⟩, hp.2.1.1, by omega⟩
  · exact ⟨hp.1.1, by omega⟩
  · exact ⟨Nat.zero_le _, by omega, lim_limbs _, trivial, trivial, by simp [val]⟩
  · exact Ent.refl _ _
  · have h1 := lim_get hs.2.2.1 (i := i)
    have h2 := lim_get hp.2.1.1 (i := i)
    omega
  · have h1 := lim_get hs.2.2.1 (i := i)
    have h2 := lim_get hp.2.1.1 (i := i)
    have h3 := sub_step hs.2.2.1 hp.2.1.1 hs.2.1 (by omega) hs.2.2.2.2.1 hs.2.2.2.1 hs.2.2.2.2.2
    have h4 := drop_succ_of hs.2.2.2.2.1
    by_cases hlt : o.getD i 0 < b.getD i 0 + (c : Int)
    · rw [if_pos hlt] at h3 ⊢
      refine ⟨(i + 1, 1, o.set i ((o.getD i 0 - b.getD i 0 - (c : Int)) % 18446744073709551616)), by (refine ent_ok [(240, 240)] rfl ?_ ?_ <;> simp only [memLe, slotsLe, AvLe, lk, ↓reduceIte, Nat.reduceEqDiff, Option.isSome_some, and_self, and_true, true_and, reduceCtorEq, List.map_nil, List.map_cons, Option.some.injEq, AV.v.injEq, Value.int.injEq, Value.bool.injEq, AV.rd.injEq, AV.ow.injEq, AV.al.injEq, AV.ref.injEq] <;> omega), ⟨by dsimp only; omega, by dsimp only; omega, lim_set hs.2.2.1 (by omega) i, by simp [hs.2.2.2.1], by dsimp only; rw [drop_set_succ, h4], h3⟩, by dsimp only; omega⟩
    · rw [if_neg hlt] at h3 ⊢
      refine ⟨(i + 1, 0, o.set i ((o.getD i 0 - b.getD i 0 - (c : Int)) % 18446744073709551616)), by (refine ent_ok [(240, 240)] rfl ?_ ?_ <;> simp only [memLe, slotsLe, AvLe, lk, ↓reduceIte, Nat.reduceEqDiff, Option.isSome_some, and_self, and_true, true_and, reduceCtorEq, List.map_nil, List.map_cons, Option.some.injEq, AV.v.injEq, Value.int.injEq, Value.bool.injEq, AV.rd.injEq, AV.ow.injEq, AV.al.injEq, AV.ref.injEq] <;> omega), ⟨by dsimp only; omega, by dsimp only; omega, lim_set hs.2.2.1 (by omega) i, by simp [hs.2.2.2.1], by dsimp only; rw [drop_set_succ, h4], h3⟩, by dsimp only; omega⟩
  · have h1 := lim_get hs.2.2.1 (i := i)
    omega
  · have h1 := lim_get hs.2.2.1 (i := i)
    have h0 : b.getD i 0 = 0 := getD_out (by omega)
    have h2 := lim_get hp.2.1.1 (i := i)
    have h3 := sub_step hs.2.2.1 hp.2.1.1 hs.2.1 (by omega) hs.2.2.2.2.1 hs.2.2.2.1 hs.2.2.2.2.2
    have h4 := drop_succ_of hs.2.2.2.2.1
    rw [h0] at h3
    by_cases hlt : o.getD i 0 < 0 + (c : Int)
    · rw [if_pos hlt] at h3 ⊢
      refine ⟨(i + 1, 1, o.set i ((o.getD i 0 - 0 - (c : Int)) % 18446744073709551616)), by (refine ent_ok [(240, 240)] rfl ?_ ?_ <;> simp only [memLe, slotsLe, AvLe, lk, ↓reduceIte, Nat.reduceEqDiff, Option.isSome_some, and_self, and_true, true_and, reduceCtorEq, List.map_nil, List.map_cons, Option.some.injEq, AV.v.injEq, Value.int.injEq, Value.bool.injEq, AV.rd.injEq, AV.ow.injEq, AV.al.injEq, AV.ref.injEq] <;> omega), ⟨by dsimp only; omega, by dsimp only; omega, lim_set hs.2.2.1 (by omega) i, by simp [hs.2.2.2.1], by dsimp only; rw [drop_set_succ, h4], h3⟩, by dsimp only; omega⟩
    · rw [if_neg hlt] at h3 ⊢
      refine ⟨(i + 1, 0, o.set i ((o.getD i 0 - 0 - (c : Int)) % 18446744073709551616)), by (refine ent_ok [(240, 240)] rfl ?_ ?_ <;> simp only [memLe, slotsLe, AvLe, lk, ↓reduceIte, Nat.reduceEqDiff, Option.isSome_some, and_self, and_true, true_and, reduceCtorEq, List.map_nil, List.map_cons, Option.some.injEq, AV.v.injEq, Value.int.injEq, Value.bool.injEq, AV.rd.injEq, AV.ow.injEq, AV.al.injEq, AV.ref.injEq] <;> omega), ⟨by dsimp only; omega, by dsimp only; omega, lim_set hs.2.2.1 (by omega) i, by simp [hs.2.2.2.1], by dsimp only; rw [drop_set_succ, h4], h3⟩, by dsimp only; omega⟩
  all_goals (have hi : i = (limbs (val a)).length := by omega)
  all_goals (subst hi)
  all_goals (have hz := sz_le o)
  all_goals (try omega)
  all_goals (have h5 := hs.2.2.2.2.2)
  all_goals (rw [List.take_length, List.take_of_length_le (by omega)] at h5)
  all_goals (have h6 := sub_fin (lim_limbs _) hs.2.2.1 hp.2.1.1 hs.2.2.2.1 (by rw [val_limbs]; exact hp.2.2) h5)
  all_goals (rw [val_limbs] at h6)
  all_goals (rw [← h6, take_sz hs.2.2.1])
  all_goals (first | rfl | exact ⟨rfl, rfl⟩)
theorem sound_76 : Sound Try.prog 76 .body (norm s76) := by
  refine sound_norm (sound_body Try.func76 (show Try.f76.body = some (code Try.f76) from rfl) (by kernel_rfl) tysOk G78_ok (drawOk_ok (by kernel_rfl) tysOk G78_ok) (by kernel_rfl) fun ds p r hs hp => ?_)
  unfold s76 at hs
  split at hs
  · cases hs; exact ⟨Nat.le_of_ble_eq_true (by kernel_rfl), w76 _ _ hp⟩
  · cases hs
noncomputable def G76 : Gam := (76, .body, norm s76) :: G78
theorem G76_ok : GamOk Try.prog G76 := gamOk_cons sound_76 G78_ok
end Go.Proofs.AMT
namespace Go.AM
open LN
def tabB (T : ByteArray) : Bool := T.size == 256 && (List.range 256).all fun j => (T.data.toList.getD j 0).toNat == blen j
theorem tab_size {T : ByteArray} (h : tabB T = true) : T.size = 256 := by
  simp only [tabB, Bool.and_eq_true, beq_iff_eq] at h; exact h.1
theorem tab_at {T : ByteArray} (h : tabB T = true) {j : Int} (h0 : 0 ≤ j) (h1 : j < 256) : bt T j = (blen j.toNat : Int) := by
  simp only [tabB, Bool.and_eq_true, beq_iff_eq, List.all_eq_true, List.mem_range] at h
  unfold bt
  rw [h.2 j.toNat (by omega)]
def strOp : Op → Option ByteArray
  | .index _ (.const (.string s)) _ => some s
  | _ => none
/-- The first string of a code that is looked into. -/
def strIn : Code → Option ByteArray
  | .seq a b => (strIn a).or (strIn b)
  | .cond _ a b => (strIn a).or (strIn b)
  | .block _ a => strIn a
  | .loop a => strIn a
  | .region _ ops _ => ops.toList.findSome? fun o => strOp o.op
  | _ => none
namespace LN
theorem blen_div {x k : Nat} (h : 2 ^ k ≤ x) : blen x = blen (x / 2 ^ k) + k := by
  obtain ⟨j, hj⟩ : ∃ j, blen (x / 2 ^ k) = j + 1 := ⟨blen (x / 2 ^ k) - 1, by
    have := @blen_zero (x / 2 ^ k)
    have h2 : 1 ≤ x / 2 ^ k := (Nat.le_div_iff_mul_le (Nat.two_pow_pos k)).2 (by omega)
    omega⟩
  have h1 : 2 ^ j ≤ x / 2 ^ k := blen_le.1 (by omega)
  have h2 : x / 2 ^ k < 2 ^ (j + 1) := blen_lt.1 (by omega)
  rw [hj, show j + 1 + k = (j + k) + 1 by omega]
  apply blen_eq
  · rw [Nat.pow_add]; exact (Nat.le_div_iff_mul_le (Nat.two_pow_pos k)).1 h1
  · rw [show j + k + 1 = (j + 1) + k by omega, Nat.pow_add]
    exact (Nat.div_lt_iff_lt_mul (Nat.two_pow_pos k)).1 h2
theorem blen_small {x : Nat} (h : x < 256) : blen x ≤ 8 := blen_lt.2 h
theorem blen_top {a : List Int} (la : lim a) (h : sz a ≠ 0) : blen (val a) = 64 * (sz a - 1) + blen (a.getD (sz a - 1) 0).toNat := by
  have hz := sz_le a
  have h0 := sz_top h
  have hg := lim_get la (i := sz a - 1)
  have hd : val (a.drop (sz a)) = 0 := by
    rw [val_drop a _ la]
    apply Nat.div_eq_of_lt
    have := val_lt (lim_limbs (val a))
    rw [val_limbs, len_limbs_sz la] at this
    exact this
  have hs := val_split (a := a) (i := sz a - 1) (by omega)
  rw [show sz a - 1 + 1 = sz a by omega, hd] at hs
  have ht := val_take_lt la (sz a - 1)
  generalize hx : (a.getD (sz a - 1) 0).toNat = x at *
  have hx0 : x ≠ 0 := by omega
  obtain ⟨j, hj⟩ : ∃ j, blen x = j + 1 := ⟨blen x - 1, by have := @blen_zero x; omega⟩
  have h1 : 2 ^ j ≤ x := blen_le.1 (by omega)
  have h2 : x < 2 ^ (j + 1) := blen_lt.1 (by omega)
  rw [hj, show 64 * (sz a - 1) + (j + 1) = (64 * (sz a - 1) + j) + 1 by omega]
  apply blen_eq
  · rw [hs, Nat.pow_add]
    have := Nat.mul_le_mul_left (2 ^ (64 * (sz a - 1))) h1
    rw [Nat.mul_zero, Nat.add_zero]
    omega
  · rw [hs, show 64 * (sz a - 1) + j + 1 = 64 * (sz a - 1) + (j + 1) by omega, Nat.pow_add, Nat.mul_zero, Nat.add_zero]
    have := Nat.mul_le_mul_left (2 ^ (64 * (sz a - 1))) (show x + 1 ≤ 2 ^ (j + 1) by omega)
    rw [Nat.mul_add] at this
    omega
end LN
end Go.AM
set_option maxRecDepth 20000
namespace Go.Proofs.AMT
open Go.AM Go.AM.LN
attribute [local congr] bindO_congr bindS_congr bindG_congr awpOps_congr aOne_congr awp_congr aCond_congr awpD_congr dOne_congr keysB_congr nOne_congr thenP_congr blockP_congr Chk_congr Brk_congr
noncomputable def s67 : CSpec := fun ds => match ds with
  | [.v (.int .u64 x)] => some (0 ≤ x ∧ x < 18446744073709551616, .one (.v (.int .i64 (blen x.toNat))))
  | _ => none
theorem s67_eq (x : Int) : norm s67 [.v (.int .u64 x)] = some (0 ≤ x ∧ x < 18446744073709551616, .one (.v (.int .i64 (blen x.toNat)))) := rfl
set_option maxHeartbeats 20000000 in
theorem w67 (x : Int) (hp : 0 ≤ x ∧ x < 18446744073709551616) : awp ty G76 (code Try.f67) (retP ty Try.f67.results.toList (.one (.v (.int .i64 (blen x.toNat))))) (entry 0 [.v (.int .u64 x)]) [] := by
  unfold code
  simp only [Try.f67, Option.getD_some]
  obtain ⟨T, hT⟩ : ∃ T, some T = strIn (code Try.f67) := ⟨_, rfl⟩
  have hk : tabB T = true := by rw [Option.some.inj hT]; kernel_rfl
  simp only [code, Try.f67, Option.getD_some, strIn, strOp, List.findSome?_cons, List.findSome?_nil, Option.none_or, Option.or_none, Option.some.injEq] at hT
  simp only [← hT]
  clear hT
  have hsz := tab_size hk
  have bs : ∀ {j : Int}, 0 ≤ j → j < 256 → bt T j = (blen j.toNat : Int) ∧ blen j.toNat ≤ 8 := fun h0 h1 => ⟨tab_at hk h0 h1, blen_small (by omega)⟩
  all_goals repeat' (first
    | ((first
       | (with_reducible refine ops_k ?_; intro X hX)
       | (with_reducible refine opsN_k ?_; intro X hX)
       | (with_reducible show awp _ _ _ _ (keepL _ _) _)
       | with_reducible refine awp_cond_k ?_
       | (with_reducible refine Brk_i ?_ ?_ <;> intro hb <;> (try simp only [hb]) <;> have hq := hb <;> try simp only [decide_eq_true_eq, decide_eq_false_iff_not, gt_iff_lt, ge_iff_le, Int.not_lt, Int.not_le, beq_iff_eq, beq_eq_false_iff_ne, Bool.not_eq_true', Bool.not_eq_false', Bool.and_eq_true, Bool.or_eq_true, Bool.and_eq_false_imp, Bool.or_eq_false_iff, ne_eq, Classical.not_not] at hq)
       | with_reducible refine retP_ret_i ?_
       | with_reducible refine retP_normal_i ?_
       | (with_reducible (show bindG _ _ _ _ _); simp only [hall])) <;> try simp only [Go.AM.S1, Go.AM.S2, Go.AM.S3, Go.AM.S4, Go.AM.S5, Go.AM.S6, Go.AM.S7, Go.AM.S8, Go.AM.S9, Nat.reduceAdd, Nat.reduceMul, Nat.reduceSub, ↓reduceIte, Nat.reduceEqDiff, Nat.reduceLT, Nat.reduceLeDiff, reduceCtorEq, Int.reduceBEq, Int.reduceBNe, Nat.reduceBEq, Int.reduceEq, Int.reduceToNat, Int.reduceLE, Int.reduceLT, Nat.reduceDiv, Int.reduceAdd, Int.reduceSub, Int.reduceMul, Int.reduceNeg, Int.reduceGT, Int.reduceGE, Nat.reduceMod, ty_3, ty_5, ty_9, ty_26, ty_72, IntKind.bits, Int.reducePow, minLit])
    | (with_reducible refine hX _ _ ?_; clear hX X)
    | with_reducible refine ops_nil_i ?_
    | with_reducible refine opsN_nil_i ?_
    | (with_reducible refine hK _ _ ?_; clear hK K)
    | with_reducible refine thenP_normal_i ?_
    | with_reducible refine zzr10 _ _ ?_
    | with_reducible refine zzsr7 _ _ ?_
    | with_reducible refine zzr8 _ _ ?_
    | with_reducible refine zzr7 _ _ ?_
    | with_reducible refine zzsr4 _ _ ?_
    | with_reducible refine zzr5 _ _ ?_
    | with_reducible refine zzr4 _ _ ?_
    | with_reducible refine zzsr1 _ _ ?_
    | with_reducible refine zzr2 _ _ ?_
    | with_reducible refine zzr1 _ _ ?_
    | with_reducible refine zzr0 _ _ ?_
    | (with_reducible refine awp_seq_l (a := .region 10 _ _) [2] ?_; intro Kzzr10 zzr10)
    | (with_reducible refine awp_seq_l (a := .seq (.region 7 _ _) _) [0, 2] ?_; intro Kzzsr7 zzsr7)
    | (with_reducible refine awp_seq_l (a := .region 8 _ _) [0, 2] ?_; intro Kzzr8 zzr8)
    | (with_reducible refine awp_seq_l (a := .region 7 _ _) [0, 2, 14] ?_; intro Kzzr7 zzr7)
    | (with_reducible refine awp_seq_l (a := .seq (.region 4 _ _) _) [0, 2] ?_; intro Kzzsr4 zzsr4)
    | (with_reducible refine awp_seq_l (a := .region 5 _ _) [0, 2] ?_; intro Kzzr5 zzr5)
    | (with_reducible refine awp_seq_l (a := .region 4 _ _) [0, 2, 8] ?_; intro Kzzr4 zzr4)
    | (with_reducible refine awp_seq_l (a := .seq (.region 1 _ _) _) [0, 2] ?_; intro Kzzsr1 zzsr1)
    | (with_reducible refine awp_seq_l (a := .region 2 _ _) [0] ?_; intro Kzzr2 zzr2)
    | (with_reducible refine awp_seq_l (a := .region 1 _ _) [0, 2, 4] ?_; intro Kzzr1 zzr1)
    | (with_reducible refine awp_seq_l (a := .region 0 _ _) [0, 2] ?_; intro Kzzr0 zzr0)
    | (with_reducible refine awp_seq_k ?_; intro K hK)
    | (with_reducible refine awp_region_a ?_; intro all hall K hK)
    | (with_reducible refine awp_draw_n ?_ ?_; kernel_rfl; intro all hall K hK)
    | (with_reducible refine Chk_i ?_ ?_)
    | (with_reducible refine keysC_i ?_; kernel_rfl)
    | (with_reducible first | refine awp_block_i ?_ | refine awp_skip_i ?_ | refine awp_ret_i ?_ | refine awp_exit_i ?_ | refine thenP_ret_i ?_ | refine thenP_exit_i ?_ | refine lpP_ret_i ?_ | refine lpP_exit_i ?_ | refine unrP_succ_i ?_ | refine unrP_ret_i ?_ | refine unrP_exit_i ?_ | refine blockP_normal_i ?_ | refine blockP_ret_i ?_)
    | (with_reducible refine blockP_exit_i ?_; simp only [↓reduceIte, Nat.reduceEqDiff])
    | with_reducible refine lpP_normal_i ?_)
  all_goals have b0 := bs (j := x % 256) (by omega) (by omega)
  all_goals have c0 : x < 256 → blen (x % 256).toNat = blen (x.toNat / 2 ^ 0) := fun h => by congr 1; omega
  all_goals have d0 : blen x.toNat = blen (x.toNat / 2 ^ 0) := by rw [Nat.pow_zero, Nat.div_one]
  all_goals have b1 := bs (j := x / 256 % 256) (by omega) (by omega)
  all_goals have c1 : x < 65536 → blen (x / 256 % 256).toNat = blen (x.toNat / 2 ^ 8) := fun h => by congr 1; omega
  all_goals have d1 : 256 ≤ x → blen x.toNat = blen (x.toNat / 2 ^ 8) + 8 := fun h => blen_div (by omega)
  all_goals have b2 := bs (j := x / 65536 % 256) (by omega) (by omega)
  all_goals have c2 : x < 16777216 → blen (x / 65536 % 256).toNat = blen (x.toNat / 2 ^ 16) := fun h => by congr 1; omega
  all_goals have d2 : 65536 ≤ x → blen x.toNat = blen (x.toNat / 2 ^ 16) + 16 := fun h => blen_div (by omega)
  all_goals have b3 := bs (j := x / 65536 / 256 % 256) (by omega) (by omega)
  all_goals have c3 : x < 4294967296 → blen (x / 65536 / 256 % 256).toNat = blen (x.toNat / 2 ^ 24) := fun h => by congr 1; omega
  all_goals have d3 : 16777216 ≤ x → blen x.toNat = blen (x.toNat / 2 ^ 24) + 24 := fun h => blen_div (by omega)
  all_goals have b4 := bs (j := x / 4294967296 % 256) (by omega) (by omega)
  all_goals have c4 : x < 1099511627776 → blen (x / 4294967296 % 256).toNat = blen (x.toNat / 2 ^ 32) := fun h => by congr 1; omega
  all_goals have d4 : 4294967296 ≤ x → blen x.toNat = blen (x.toNat / 2 ^ 32) + 32 := fun h => blen_div (by omega)
  all_goals have b5 := bs (j := x / 4294967296 / 256 % 256) (by omega) (by omega)
  all_goals have c5 : x < 281474976710656 → blen (x / 4294967296 / 256 % 256).toNat = blen (x.toNat / 2 ^ 40) := fun h => by congr 1; omega
  all_goals have d5 : 1099511627776 ≤ x → blen x.toNat = blen (x.toNat / 2 ^ 40) + 40 := fun h => blen_div (by omega)
  all_goals have b6 := bs (j := x / 4294967296 / 65536 % 256) (by omega) (by omega)
  all_goals have c6 : x < 72057594037927936 → blen (x / 4294967296 / 65536 % 256).toNat = blen (x.toNat / 2 ^ 48) := fun h => by congr 1; omega
  all_goals have d6 : 281474976710656 ≤ x → blen x.toNat = blen (x.toNat / 2 ^ 48) + 48 := fun h => blen_div (by omega)
  all_goals have b7 := bs (j := x / 4294967296 / 65536 / 256 % 256) (by omega) (by omega)
  all_goals have c7 : x < 18446744073709551616 → blen (x / 4294967296 / 65536 / 256 % 256).toNat = blen (x.toNat / 2 ^ 56) := fun h => by congr 1; omega
  all_goals have d7 : 72057594037927936 ≤ x → blen x.toNat = blen (x.toNat / 2 ^ 56) + 56 := fun h => blen_div (by omega)
  all_goals (try simp only [inR, hsz])
  all_goals first
    | omega
    | (refine congrArg _ ?_; omega)
theorem sound_67 : Sound Try.prog 67 .body (norm s67) := by
  refine sound_norm (sound_body Try.func67 (show Try.f67.body = some (code Try.f67) from rfl) (by kernel_rfl) tysOk G76_ok (drawOk_ok (by kernel_rfl) tysOk G76_ok) (by kernel_rfl) fun ds p r hs hp => ?_)
  unfold s67 at hs
  split at hs
  · cases hs; exact ⟨Nat.le_of_ble_eq_true (by kernel_rfl), w67 _ hp⟩
  · cases hs
noncomputable def G67 : Gam := (67, .body, norm s67) :: G76
theorem G67_ok : GamOk Try.prog G67 := gamOk_cons sound_67 G76_ok
end Go.Proofs.AMT
set_option maxRecDepth 20000
namespace Go.Proofs.AMT
open Go.AM Go.AM.LN
attribute [local congr] bindO_congr bindS_congr bindG_congr awpOps_congr aOne_congr awp_congr aCond_congr awpD_congr dOne_congr keysB_congr nOne_congr thenP_congr blockP_congr Chk_congr Brk_congr
noncomputable def s44 : CSpec := fun ds => match ds with
  | [.sl .u64 a] => some (lim a ∧ a.length ≤ 100000000, .one (.v (.int .i64 (blen (val a)))))
  | _ => none
theorem s44_eq (a : List Int) : norm s44 [.sl .u64 a] = some (lim a ∧ a.length ≤ 100000000, .one (.v (.int .i64 (blen (val a))))) := rfl
theorem s44_nil1  : norm s44 [.v (.slice none 0 0)] = some (lim ([] : List Int) ∧ ([] : List Int).length ≤ 100000000, .one (.v (.int .i64 (blen (val ([] : List Int)))))) := rfl
theorem k44_67 : lk G67 67 = some (.body, norm s67) := rfl
theorem k44_71 : lk G67 71 = some (.body, norm s71) := rfl
set_option maxHeartbeats 20000000 in
theorem w44 (a : List Int) (hp : lim a ∧ a.length ≤ 100000000) : awp ty G67 (code Try.f44) (retP ty Try.f44.results.toList (.one (.v (.int .i64 (blen (val a)))))) (entry 0 [.sl .u64 a]) [] := by
  unfold code
  simp only [Try.f44, Option.getD_some]
  have za := sz_le a
  all_goals repeat' (first
    | ((first
       | (with_reducible refine ops_k ?_; intro X hX)
       | (with_reducible refine opsN_k ?_; intro X hX)
       | (with_reducible show awp _ _ _ _ (keepL _ _) _)
       | with_reducible refine awp_cond_k ?_
       | (with_reducible refine Brk_i ?_ ?_ <;> intro hb <;> (try simp only [hb]) <;> have hq := hb <;> try simp only [decide_eq_true_eq, decide_eq_false_iff_not, gt_iff_lt, ge_iff_le, Int.not_lt, Int.not_le, beq_iff_eq, beq_eq_false_iff_ne, Bool.not_eq_true', Bool.not_eq_false', Bool.and_eq_true, Bool.or_eq_true, Bool.and_eq_false_imp, Bool.or_eq_false_iff, ne_eq, Classical.not_not] at hq)
       | with_reducible refine retP_ret_i ?_
       | with_reducible refine retP_normal_i ?_
       | (with_reducible (show bindG _ _ _ _ _); simp only [hall])) <;> try simp only [Go.AM.S1, Go.AM.S2, Go.AM.S3, Go.AM.S4, Go.AM.S5, Go.AM.S6, Go.AM.S7, Go.AM.S8, Go.AM.S9, Nat.reduceAdd, Nat.reduceMul, Nat.reduceSub, ↓reduceIte, Nat.reduceEqDiff, Nat.reduceLT, Nat.reduceLeDiff, reduceCtorEq, Int.reduceBEq, Int.reduceBNe, Nat.reduceBEq, Int.reduceEq, Int.reduceToNat, Int.reduceLE, Int.reduceLT, Nat.reduceDiv, Int.reduceAdd, Int.reduceSub, Int.reduceMul, Int.reduceNeg, Int.reduceGT, Int.reduceGE, Nat.reduceMod, k44_67, s67_eq, k44_71, s71_eq, s71_nil1, ty_3, ty_26, ty_42])
    | (with_reducible refine hX _ _ ?_; clear hX X)
    | with_reducible refine ops_nil_i ?_
    | with_reducible refine opsN_nil_i ?_
    | (with_reducible refine hK _ _ ?_; clear hK K)
    | with_reducible refine thenP_normal_i ?_
    | with_reducible refine zzr4 _ _ ?_
    | with_reducible refine zzsr2 _ _ ?_
    | with_reducible refine zzr3 _ _ ?_
    | with_reducible refine zzr2 _ _ ?_
    | with_reducible refine zzr1 _ _ ?_
    | with_reducible refine zzr0 _ _ ?_
    | (with_reducible refine awp_seq_l (a := .region 4 _ _) [2] ?_; intro Kzzr4 zzr4)
    | (with_reducible refine awp_seq_l (a := .seq (.region 2 _ _) _) [0, 3] ?_; intro Kzzsr2 zzsr2)
    | (with_reducible refine awp_seq_l (a := .region 3 _ _) [2] ?_; intro Kzzr3 zzr3)
    | (with_reducible refine awp_seq_l (a := .region 2 _ _) [0, 3, 7] ?_; intro Kzzr2 zzr2)
    | (with_reducible refine awp_seq_l (a := .region 1 _ _) [0, 3] ?_; intro Kzzr1 zzr1)
    | (with_reducible refine awp_seq_l (a := .region 0 _ _) [0] ?_; intro Kzzr0 zzr0)
    | (with_reducible refine awp_seq_k ?_; intro K hK)
    | (with_reducible refine awp_region_a ?_; intro all hall K hK)
    | (with_reducible refine awp_draw_n ?_ ?_; kernel_rfl; intro all hall K hK)
    | (with_reducible refine Chk_i ?_ ?_)
    | (with_reducible refine keysC_i ?_; kernel_rfl)
    | (with_reducible first | refine awp_block_i ?_ | refine awp_skip_i ?_ | refine awp_ret_i ?_ | refine awp_exit_i ?_ | refine thenP_ret_i ?_ | refine thenP_exit_i ?_ | refine lpP_ret_i ?_ | refine lpP_exit_i ?_ | refine unrP_succ_i ?_ | refine unrP_ret_i ?_ | refine unrP_exit_i ?_ | refine blockP_normal_i ?_ | refine blockP_ret_i ?_)
    | (with_reducible refine blockP_exit_i ?_; simp only [↓reduceIte, Nat.reduceEqDiff])
    | with_reducible refine lpP_normal_i ?_)
  all_goals (try simp only [inR])
  all_goals (try omega)
  · have h0 := (sz_zero hp.1).1 (by omega)
    rw [h0]; rfl
  all_goals have e : ((sz a : Int) - 1).toNat = sz a - 1 := by omega
  all_goals rw [e]
  all_goals have hg := lim_get hp.1 (i := sz a - 1)
  · exact hg
  all_goals have h1 := blen_top hp.1 (by omega)
  all_goals have h2 : blen (a.getD (sz a - 1) 0).toNat ≤ 64 := blen_lt.2 (by omega)
  · omega
  · refine congrArg _ ?_
    omega
theorem sound_44 : Sound Try.prog 44 .body (norm s44) := by
  refine sound_norm (sound_body Try.func44 (show Try.f44.body = some (code Try.f44) from rfl) (by kernel_rfl) tysOk G67_ok (drawOk_ok (by kernel_rfl) tysOk G67_ok) (by kernel_rfl) fun ds p r hs hp => ?_)
  unfold s44 at hs
  split at hs
  · cases hs; exact ⟨Nat.le_of_ble_eq_true (by kernel_rfl), w44 _ hp⟩
  · cases hs
noncomputable def G44 : Gam := (44, .body, norm s44) :: G67
theorem G44_ok : GamOk Try.prog G44 := gamOk_cons sound_44 G67_ok
end Go.Proofs.AMT
namespace Go.AM.LN
theorem mul_mod_div {x s : Nat} (hx : x < 18446744073709551616) (hs : s ≤ 64) : (x * 2 ^ s) % 18446744073709551616 + 18446744073709551616 * (x / 2 ^ (64 - s)) = x * 2 ^ s := by
  have e : (18446744073709551616 : Nat) = 2 ^ (64 - s) * 2 ^ s := by rw [← Nat.pow_add, show 64 - s + s = 64 by omega]
  have h1 : x * 2 ^ s / 18446744073709551616 = x / 2 ^ (64 - s) := by
    rw [e, Nat.mul_div_mul_right _ _ (Nat.two_pow_pos s)]
  rw [← h1]
  have := Nat.div_add_mod (x * 2 ^ s) 18446744073709551616
  omega
theorem or_shl {x y s : Nat} (hs : s ≤ 64) (hy : y < 2 ^ s) : (x * 2 ^ s) % 18446744073709551616 ||| y = (x * 2 ^ s) % 18446744073709551616 + y := by
  have e : (18446744073709551616 : Nat) = 2 ^ (64 - s) * 2 ^ s := by rw [← Nat.pow_add, show 64 - s + s = 64 by omega]
  rw [e, Nat.mul_mod_mul_right, Nat.mul_comm, ← Nat.two_pow_add_eq_or_of_lt hy]
theorem hi_lt {x s : Nat} (hx : x < 18446744073709551616) (hs : s ≤ 64) : x / 2 ^ (64 - s) < 2 ^ s := by
  rw [Nat.div_lt_iff_lt_mul (Nat.two_pow_pos _), ← Nat.pow_add, show s + (64 - s) = 64 by omega]
  exact hx
/-- A word of a number shifted to the left. -/
theorem shl_word {x y : Int} {s : Nat} (hx : 0 ≤ x ∧ x < 18446744073709551616) (hy : 0 ≤ y ∧ y < 18446744073709551616) (hs : s ≤ 64) :
    bits .or .u64 (x * 2 ^ s % 18446744073709551616) (y / 2 ^ (64 - s)) = (((x.toNat * 2 ^ s) % 18446744073709551616 + y.toNat / 2 ^ (64 - s) : Nat) : Int) := by
  obtain ⟨x, rfl⟩ := Int.eq_ofNat_of_zero_le hx.1
  obtain ⟨y, rfl⟩ := Int.eq_ofNat_of_zero_le hy.1
  have e1 : (x : Int) * 2 ^ s % 18446744073709551616 = ((x * 2 ^ s % 18446744073709551616 : Nat) : Int) := by
    rw [Int.natCast_emod, Int.natCast_mul, Int.natCast_pow]; rfl
  have e2 : (y : Int) / 2 ^ (64 - s) = ((y / 2 ^ (64 - s) : Nat) : Int) := by
    rw [Int.natCast_ediv, Int.natCast_pow]; rfl
  have h1 := hi_lt (x := y) (by omega) hs
  have h2 : y / 2 ^ (64 - s) ≤ y := Nat.div_le_self _ _
  have h3 := or_shl (x := x) hs h1
  rw [e1, e2]
  simp only [Int.toNat_natCast]
  rw [← h3]
  generalize y / 2 ^ (64 - s) = q at *
  generalize x * 2 ^ s = p at *
  rw [or_u64 ⟨by omega, by omega⟩ ⟨by omega, by omega⟩]
  simp only [Int.toNat_natCast]
theorem drop_cons {a : List Int} {i : Nat} (h : i < a.length) : a.drop i = a.getD i 0 :: a.drop (i + 1) := by
  rw [List.drop_eq_getElem_cons h, List.getD, List.getElem?_eq_getElem h]; rfl
theorem drop_set_cons {o : List Int} {i : Nat} (h : i < o.length) (v : Int) : (o.set i v).drop i = v :: o.drop (i + 1) := by
  rw [drop_cons (by simpa using h), drop_set_succ]
  congr 1
  simp [List.getD, h]
theorem shl_step {o o0 : List Int} {i s : Nat} (l0 : lim o0) (hi : i < o.length) (hl : o.length = o0.length) (hs : s ≤ 64)
    (h : val (o.drop (i + 1)) = val (o0.drop (i + 1)) * 2 ^ s + (o0.getD i 0).toNat / 2 ^ (64 - s)) (z : Nat) :
    val ((o.set i ((((o0.getD i 0).toNat * 2 ^ s) % 18446744073709551616 + z : Nat) : Int)).drop i) = val (o0.drop i) * 2 ^ s + z := by
  have hx := lim_get l0 (i := i)
  rw [drop_set_cons hi, drop_cons (a := o0) (i := i) (by omega)]
  simp only [val, h, Int.toNat_natCast]
  have := mul_mod_div (x := (o0.getD i 0).toNat) (s := s) (by omega) hs
  rw [Nat.mul_add, Nat.add_mul, Nat.mul_assoc]
  omega
theorem take_getD {o o0 : List Int} {n i : Nat} (h : o.take n = o0.take n) (hi : i < n) : o.getD i 0 = o0.getD i 0 := by
  have h1 : (o.take n).getD i 0 = o.getD i 0 := by simp [List.getD, hi]
  have h2 : (o0.take n).getD i 0 = o0.getD i 0 := by simp [List.getD, hi]
  rw [← h1, ← h2, h]
theorem take_le_of {o o0 : List Int} {n m : Nat} (h : o.take n = o0.take n) (hm : m ≤ n) : o.take m = o0.take m := by
  have := congrArg (List.take m) h
  rwa [List.take_take, List.take_take, Nat.min_eq_left hm] at this
theorem val_take_drop (o : List Int) (w : Nat) (hw : w ≤ o.length) : val o = val (o.take w) + 2 ^ (64 * w) * val (o.drop w) := by
  have := val_app (o.take w) (o.drop w)
  rwa [List.take_append_drop, List.length_take, Nat.min_eq_left hw] at this
theorem wrap_lim (e : Int) : 0 ≤ IntKind.u64.wrap e ∧ IntKind.u64.wrap e < 18446744073709551616 := by
  simp only [IntKind.wrap]
  simp [IntKind.bits, IntKind.signed]
  omega
theorem or_lim (x y : Int) : 0 ≤ bits .or .u64 x y ∧ bits .or .u64 x y < 18446744073709551616 := wrap_lim _
theorem and_lim (x y : Int) : 0 ≤ bits .and .u64 x y ∧ bits .and .u64 x y < 18446744073709551616 := wrap_lim _
/-- What is to be shifted within its words. -/
structure Shl0 (va w N : Nat) (o0 : List Int) : Prop where
  len : o0.length = N
  lm : lim o0
  vl : val o0 = 2 ^ (64 * w) * va
  low : val (o0.take w) = 0
  top : o0.getD (N - 1) 0 = 0
  wN : w < N
theorem shl0_mk {va w N : Nat} (hN : N = w + ((limbs va).length + 1)) : Shl0 va w N (List.replicate w 0 ++ limbs va ++ [0]) := by
  refine ⟨by simp [hN], ?_, ?_, ?_, ?_, by omega⟩
  · rw [lim_app, lim_app]; exact ⟨⟨lim_rep _, lim_limbs _⟩, lim_one ⟨by omega, by omega⟩⟩
  · rw [List.append_assoc, val_app, val_rep, List.length_replicate, val_app, val_limbs, sz_one]; simp
  · rw [List.append_assoc, List.take_append_of_le_length (by simp), List.take_of_length_le (by simp), val_rep]
  · rw [hN, List.getD, List.getElem?_append_right (by simp)]
    simp
theorem copy0 {va w N : Nat} (hN : N = w + ((limbs va).length + 1)) : List.take w (List.replicate N (0 : Int)) ++ List.take (N - w) (limbs va) ++ List.drop (w + (List.take (N - w) (limbs va)).length) (List.replicate N 0) = List.replicate w 0 ++ limbs va ++ [0] := by
  rw [List.take_of_length_le (l := limbs va) (by omega), List.take_replicate, List.drop_replicate, hN]
  rw [Nat.min_eq_left (by omega), show w + ((limbs va).length + 1) - (w + (limbs va).length) = 1 by omega]
  rfl
theorem shl_val {va w N s : Nat} {o0 o : List Int} (h0 : Shl0 va w N o0) (hl : o.length = N) (ht : o.take w = o0.take w) (hd : val (o.drop w) = val (o0.drop w) * 2 ^ s) : val o = va * 2 ^ (64 * w + s) := by
  rw [val_take_drop o w (by have := h0.wN; omega), ht, h0.low, hd]
  have := val_take_drop o0 w (by have := h0.wN; have := h0.len; omega)
  rw [h0.low, h0.vl, Nat.zero_add] at this
  have hp : 0 < 2 ^ (64 * w) := Nat.two_pow_pos _
  have e := Nat.eq_of_mul_eq_mul_left hp this
  rw [← e, Nat.pow_add]
  rw [Nat.zero_add]
  ac_rfl
theorem shl_last {o o0 : List Int} {w s : Nat} (l0 : lim o0) (hw : w < o.length) (hl : o.length = o0.length) (hs : s ≤ 64) (ht : o.take (w + 1) = o0.take (w + 1))
    (h : val (o.drop (w + 1)) = val (o0.drop (w + 1)) * 2 ^ s + (o0.getD w 0).toNat / 2 ^ (64 - s)) :
    o.set w (o.getD w 0 * 2 ^ s % 18446744073709551616) = o.set w ((((o0.getD w 0).toNat * 2 ^ s) % 18446744073709551616 + 0 : Nat) : Int) ∧ val ((o.set w (o.getD w 0 * 2 ^ s % 18446744073709551616)).drop w) = val (o0.drop w) * 2 ^ s ∧ (0 ≤ o.getD w 0 * 2 ^ s % 18446744073709551616 ∧ o.getD w 0 * 2 ^ s % 18446744073709551616 < 18446744073709551616) := by
  have e1 := take_getD ht (i := w) (by omega)
  have hx := lim_get l0 (i := w)
  obtain ⟨x, hx2⟩ := Int.eq_ofNat_of_zero_le hx.1
  have e2 : o.getD w 0 * 2 ^ s % 18446744073709551616 = ((((o0.getD w 0).toNat * 2 ^ s) % 18446744073709551616 + 0 : Nat) : Int) := by
    rw [e1, hx2, Nat.add_zero, Int.natCast_emod, Int.natCast_mul, Int.natCast_pow]; rfl
  have h1 := shl_step l0 hw hl hs h 0
  rw [e2]
  exact ⟨rfl, h1, by omega, by omega⟩
theorem take_set_lt {o : List Int} {i n : Nat} (h : n ≤ i) (v : Int) : (o.set i v).take n = o.take n := List.take_set_of_le h
end Go.AM.LN
set_option maxRecDepth 20000
namespace Go.Proofs.AMT
open Go.AM Go.AM.LN
attribute [local congr] bindO_congr bindS_congr bindG_congr awpOps_congr aOne_congr awp_congr aCond_congr awpD_congr dOne_congr keysB_congr nOne_congr thenP_congr blockP_congr Chk_congr Brk_congr
noncomputable def s72 : CSpec := fun ds => match ds with
  | [.sl .u64 a, .v (.int .i64 n)] => some ((lim a ∧ a.length ≤ 100000000) ∧ 0 ≤ n ∧ (sz a : Int) + (n + 63) / 64 ≤ 2000, .many [.fresh .u64 (limbs (val a * 2 ^ n.toNat)), .v (.int .i64 0)])
  | _ => none
theorem s72_eq (a : List Int) (n : Int) : norm s72 [.sl .u64 a, .v (.int .i64 n)] = some ((lim a ∧ a.length ≤ 100000000) ∧ 0 ≤ n ∧ (sz a : Int) + (n + 63) / 64 ≤ 2000, .many [.fresh .u64 (limbs (val a * 2 ^ n.toNat)), .v (.int .i64 0)]) := rfl
theorem s72_nil1  (n : Int) : norm s72 [.v (.slice none 0 0), .v (.int .i64 n)] = some ((lim ([] : List Int) ∧ ([] : List Int).length ≤ 100000000) ∧ 0 ≤ n ∧ (sz ([] : List Int) : Int) + (n + 63) / 64 ≤ 2000, .many [.fresh .u64 (limbs (val ([] : List Int) * 2 ^ n.toNat)), .v (.int .i64 0)]) := rfl
theorem k72_71 : lk G44 71 = some (.body, norm s71) := rfl
set_option maxHeartbeats 20000000 in
theorem w72 (a : List Int) (n : Int) (hp : (lim a ∧ a.length ≤ 100000000) ∧ 0 ≤ n ∧ (sz a : Int) + (n + 63) / 64 ≤ 2000) : awp ty G44 (code Try.f72) (retP ty Try.f72.results.toList (.many [.fresh .u64 (limbs (val a * 2 ^ n.toNat)), .v (.int .i64 0)])) (entry 0 [.sl .u64 a, .v (.int .i64 n)]) [] := by
  unfold code
  simp only [Try.f72, Option.getD_some]
  have za := sz_le a
  have ya := len_limbs_sz hp.1.1
  obtain ⟨k, rfl⟩ := Int.eq_ofNat_of_zero_le hp.2.1
  have hk : k = 64 * (k / 64) + k % 64 := by omega
  generalize hw : k / 64 = w at *
  generalize hs : k % 64 = s at *
  have hd : (k : Int).tdiv 64 = (w : Int) := by rw [Int.tdiv_eq_ediv_of_nonneg (by omega)]; omega
  have hm : (k : Int).tmod 64 = (s : Int) := by rw [Int.tmod_eq_emod_of_nonneg (by omega)]; omega
  have h63 : ((k : Int) + 63).tdiv 64 = ((k : Int) + 63) / 64 := by rw [Int.tdiv_eq_ediv_of_nonneg (by omega)]
  have g1 : decide ((k : Int) < 0) = false := by simp
  have g2 : decide ((w : Int) > 2000) = false := by simp only [decide_eq_false_iff_not]; omega
  have g3 : decide (((limbs (val a)).length : Int) + ((k : Int) + 63) / 64 > 2000) = false := by simp only [decide_eq_false_iff_not]; omega
  have m1 : min s 64 = s := by omega
  have m2 : (64 - (s : Int)).toNat = 64 - s := by omega
  have m3 : min (64 - s) 64 = 64 - s := by omega
  obtain ⟨N, hN⟩ : ∃ N, N = w + ((limbs (val a)).length + 1) := ⟨_, rfl⟩
  have lenW : (((limbs (val a)).length : Int) + (w : Int) + 1).toNat = N := by omega
  have copyW := copy0 hN
  have h0 := shl0_mk (va := val a) hN
  have hwN := h0.wN
  generalize List.replicate w 0 ++ limbs (val a) ++ [0] = o0 at *
  all_goals repeat' (first
    | ((first
       | (with_reducible refine ops_k ?_; intro X hX)
       | (with_reducible refine opsN_k ?_; intro X hX)
       | (with_reducible show awp _ _ _ _ (keepL _ _) _)
       | (with_reducible refine hX _ _ _ _ ?_; clear hX X)
       | (with_reducible refine opsD_k ?_; intro X hX)
       | with_reducible refine awp_cond_k ?_
       | (with_reducible refine Brk_i ?_ ?_ <;> intro hb <;> (try simp only [hb]) <;> have hq := hb <;> try simp only [decide_eq_true_eq, decide_eq_false_iff_not, gt_iff_lt, ge_iff_le, Int.not_lt, Int.not_le, beq_iff_eq, beq_eq_false_iff_ne, Bool.not_eq_true', Bool.not_eq_false', Bool.and_eq_true, Bool.or_eq_true, Bool.and_eq_false_imp, Bool.or_eq_false_iff, ne_eq, Classical.not_not] at hq)
       | with_reducible refine retP_ret_i ?_
       | with_reducible refine retP_normal_i ?_
       | (with_reducible (show bindG _ _ _ _ _); simp only [hall])) <;> try simp only [Go.AM.S1, Go.AM.S2, Go.AM.S3, Go.AM.S4, Go.AM.S5, Go.AM.S6, Go.AM.S7, Go.AM.S8, Go.AM.S9, Nat.reduceAdd, Nat.reduceMul, Nat.reduceSub, ↓reduceIte, Nat.reduceEqDiff, Nat.reduceLT, Nat.reduceLeDiff, reduceCtorEq, Int.reduceBEq, Int.reduceBNe, Nat.reduceBEq, Int.reduceEq, Int.reduceToNat, Int.reduceLE, Int.reduceLT, Nat.reduceDiv, Int.reduceAdd, Int.reduceSub, Int.reduceMul, Int.reduceNeg, Int.reduceGT, Int.reduceGE, Nat.reduceMod, k72_71, s71_eq, s71_nil1, ty_3, ty_26, ty_42, take_sz hp.1.1, hd, hm, g1, g2, g3, aOne_copy, bindP_some, spCopy, spAppend, intSl, yInts, layAt, IntKind.bits, m1, m2, m3, h63, lenW, copyW, List.length_replicate, h0.len])
    | (with_reducible refine hX _ _ ?_; clear hX X)
    | with_reducible refine opsD_nil_i ?_
    | (with_reducible refine keysB_i ?_; kernel_rfl)
    | ((with_reducible show clashK _ _ _ = true); kernel_rfl)
    | with_reducible refine ops_nil_i ?_
    | with_reducible refine opsN_nil_i ?_
    | (with_reducible refine hK _ _ ?_; clear hK K)
    | with_reducible refine thenP_normal_i ?_
    | with_reducible refine zzr15 _ _ ?_
    | with_reducible refine zzsr8 _ _ ?_
    | with_reducible refine zzsr10 _ _ ?_
    | with_reducible refine zzb2 _ _ ?_
    | with_reducible refine zzsr11 _ _ ?_
    | with_reducible refine zzr11 _ _ ?_
    | with_reducible refine zzr10 _ _ ?_
    | with_reducible refine zzr9 _ _ ?_
    | with_reducible refine zzr8 _ _ ?_
    | with_reducible refine zzr7 _ _ ?_
    | with_reducible refine zzr6 _ _ ?_
    | with_reducible refine zzb0 _ _ ?_
    | with_reducible refine zzr3 _ _ ?_
    | with_reducible refine zzr5 _ _ ?_
    | with_reducible refine zzr4 _ _ ?_
    | with_reducible refine zzr2 _ _ ?_
    | with_reducible refine zzr1 _ _ ?_
    | with_reducible refine zzr0 _ _ ?_
    | (with_reducible refine awp_lp (σ := Nat × List Int) (fun s1 => w ≤ s1.1 ∧ s1.1 < N ∧ s1.2.length = N ∧ lim s1.2 ∧ s1.2.take (s1.1 + 1) = o0.take (s1.1 + 1) ∧ val (s1.2.drop (s1.1 + 1)) = val (o0.drop (s1.1 + 1)) * 2 ^ s + (o0.getD s1.1 0).toNat / 2 ^ (64 - s)) (fun s1 => [(1, .v (.int .i64 k)), (6, .ow 560), (7, .v (.int .i64 s)), (8, .v (.int .i64 s1.1))]) (fun s1 => [(560, .ints .u64 s1.2, false)]) (fun s1 => s1.1) (N - 1, o0) ?_ ?_ (fun s1 hs1 => ?_))
    | (with_reducible refine awp_seq_l (a := .region 15 _ _) [4, 5] ?_; intro Kzzr15 zzr15)
    | (with_reducible refine awp_seq_l (a := .seq (.region 8 _ _) _) [6] ?_; intro Kzzsr8 zzsr8)
    | (with_reducible refine awp_seq_l (a := .seq (.region 10 _ _) _) [1, 6, 7] ?_; intro Kzzsr10 zzsr10)
    | (with_reducible refine awp_seq_l (a := .block 2 _) [1, 6, 7, 8] ?_; intro Kzzb2 zzb2)
    | (with_reducible refine awp_seq_l (a := .seq (.region 11 _ _) _) [1, 6, 7, 8] ?_; intro Kzzsr11 zzsr11)
    | (with_reducible refine awp_seq_l (a := .region 11 _ _) [1, 6, 7, 8, 52] ?_; intro Kzzr11 zzr11)
    | (with_reducible refine awp_seq_l (a := .region 10 _ _) [1, 6, 7, 8] ?_; intro Kzzr10 zzr10)
    | (with_reducible refine awp_seq_l (a := .region 9 _ _) [1, 6, 7, 45] ?_; intro Kzzr9 zzr9)
    | (with_reducible refine awp_seq_l (a := .region 8 _ _) [1, 6, 7] ?_; intro Kzzr8 zzr8)
    | (with_reducible refine awp_seq_l (a := .region 7 _ _) [1, 6] ?_; intro Kzzr7 zzr7)
    | (with_reducible refine awp_seq_l (a := .region 6 _ _) [0, 1, 6] ?_; intro Kzzr6 zzr6)
    | (with_reducible refine awp_seq_l (a := .block 0 _) [0, 1] ?_; intro Kzzb0 zzb0)
    | (with_reducible refine awp_seq_l (a := .region 3 _ _) [4, 5] ?_; intro Kzzr3 zzr3)
    | (with_reducible refine awp_seq_l (a := .region 5 _ _) [4, 5] ?_; intro Kzzr5 zzr5)
    | (with_reducible refine awp_seq_l (a := .region 4 _ _) [0, 1, 16] ?_; intro Kzzr4 zzr4)
    | (with_reducible refine awp_seq_l (a := .region 2 _ _) [0, 1, 13] ?_; intro Kzzr2 zzr2)
    | (with_reducible refine awp_seq_l (a := .region 1 _ _) [0, 1] ?_; intro Kzzr1 zzr1)
    | (with_reducible refine awp_seq_l (a := .region 0 _ _) [0, 1] ?_; intro Kzzr0 zzr0)
    | (with_reducible refine awp_seq_k ?_; intro K hK)
    | (with_reducible refine awp_region_a ?_; intro all hall K hK)
    | (with_reducible refine awp_draw_a (id := 13) ?_ ?_; kernel_rfl; intro all hall K hK)
    | (with_reducible refine awp_draw_n ?_ ?_; kernel_rfl; intro all hall K hK)
    | (with_reducible refine Chk_i ?_ ?_)
    | (with_reducible refine keysC_i ?_; kernel_rfl)
    | (with_reducible first | refine awp_block_i ?_ | refine awp_skip_i ?_ | refine awp_ret_i ?_ | refine awp_exit_i ?_ | refine thenP_ret_i ?_ | refine thenP_exit_i ?_ | refine lpP_ret_i ?_ | refine lpP_exit_i ?_ | refine unrP_succ_i ?_ | refine unrP_ret_i ?_ | refine unrP_exit_i ?_ | refine blockP_normal_i ?_ | refine blockP_ret_i ?_)
    | (with_reducible refine blockP_exit_i ?_; simp only [↓reduceIte, Nat.reduceEqDiff])
    | with_reducible refine lpP_normal_i ?_)
  all_goals (try (rcases s1 with ⟨i, o⟩))
  all_goals (try dsimp only at *)
  all_goals (try simp only [inR])
  all_goals (try omega)
  · refine ⟨by omega, by omega, h0.len, h0.lm, trivial, ?_⟩
    rw [show N - 1 + 1 = N by omega, List.drop_of_length_le (by rw [h0.len]; exact Nat.le_refl _), h0.top]
    simp [val]
  · (refine ent_ok [(560, 560)] rfl ?_ ?_ <;> simp only [memLe, slotsLe, AvLe, lk, ↓reduceIte, Nat.reduceEqDiff, Option.isSome_some, and_self, and_true, true_and, reduceCtorEq, List.map_nil, List.map_cons, Option.some.injEq, AV.v.injEq, Value.int.injEq, Value.bool.injEq, AV.rd.injEq, AV.ow.injEq, AV.al.injEq, AV.ref.injEq] <;> omega)
  · have e0 : ((i : Int) - 1).toNat = i - 1 := by omega
    have e1 := take_getD hs1.2.2.2.2.1 (i := i) (by omega)
    have e2 := take_getD hs1.2.2.2.2.1 (i := i - 1) (by omega)
    rw [e0, e1, e2, shl_word (lim_get h0.lm) (lim_get h0.lm) (by omega)]
    have h3 := shl_step (z := (o0.getD (i - 1) 0).toNat / 2 ^ (64 - s)) h0.lm (by omega) (by rw [hs1.2.2.1, h0.len]) (show s ≤ 64 by omega) hs1.2.2.2.2.2
    have h4 := or_lim (o0.getD i 0 * 2 ^ s % 18446744073709551616) (o0.getD (i - 1) 0 / 2 ^ (64 - s))
    rw [shl_word (lim_get h0.lm) (lim_get h0.lm) (by omega)] at h4
    refine ⟨(i - 1, o.set i (((o0.getD i 0).toNat * 2 ^ s % 18446744073709551616 + (o0.getD (i - 1) 0).toNat / 2 ^ (64 - s) : Nat) : Int)), by (refine ent_ok [(560, 560)] rfl ?_ ?_ <;> simp only [memLe, slotsLe, AvLe, lk, ↓reduceIte, Nat.reduceEqDiff, Option.isSome_some, and_self, and_true, true_and, reduceCtorEq, List.map_nil, List.map_cons, Option.some.injEq, AV.v.injEq, Value.int.injEq, Value.bool.injEq, AV.rd.injEq, AV.ow.injEq, AV.al.injEq, AV.ref.injEq] <;> omega), ⟨by dsimp only; omega, by dsimp only; omega, by simp [hs1.2.2.1], lim_set hs1.2.2.2.1 h4 i, ?_, ?_⟩, by dsimp only; omega⟩
    · dsimp only
      rw [show i - 1 + 1 = i by omega, take_set_lt (Nat.le_refl _)]
      exact take_le_of hs1.2.2.2.2.1 (by omega)
    · dsimp only
      rw [show i - 1 + 1 = i by omega]
      exact h3
  all_goals first
    | (have hi : i = w := by omega
       subst hi
       have h5 := shl_last h0.lm (by omega) (by rw [hs1.2.2.1, h0.len]) (show s ≤ 64 by omega) hs1.2.2.2.2.1 hs1.2.2.2.2.2
       have h6 := sz_le (o.set i (o.getD i 0 * 2 ^ s % 18446744073709551616))
       have h7 : (o.set i (o.getD i 0 * 2 ^ s % 18446744073709551616)).length = N := by simp [hs1.2.2.1]
       have h8 := lim_set hs1.2.2.2.1 h5.2.2 i
       have h7a := hs1.2.2.1
       have h9 := shl_val (s := s) h0 h7 (by rw [take_set_lt (Nat.le_refl _)]; exact take_le_of hs1.2.2.2.2.1 (by omega)) h5.2.1
       first
         | omega
         | (rw [take_sz h8, h9, hk]; done)
         | (rw [take_sz h8, h9, hk]; all_goals (first | rfl | exact ⟨rfl, rfl⟩)))
    | (have h6 := sz_le o0
       have h7 := h0.len
       omega)
    | (have hs0 : s = 0 := by omega
       rw [take_sz h0.lm, h0.vl, hk, hs0, Nat.add_zero, Nat.mul_comm]; done)
    | (have hs0 : s = 0 := by omega
       refine ⟨?_, rfl⟩
       rw [take_sz h0.lm, h0.vl, hk, hs0, Nat.add_zero, Nat.mul_comm])
theorem sound_72 : Sound Try.prog 72 .body (norm s72) := by
  refine sound_norm (sound_body Try.func72 (show Try.f72.body = some (code Try.f72) from rfl) (by kernel_rfl) tysOk G44_ok (drawOk_ok (by kernel_rfl) tysOk G44_ok) (by kernel_rfl) fun ds p r hs hp => ?_)
  unfold s72 at hs
  split at hs
  · cases hs; exact ⟨Nat.le_of_ble_eq_true (by kernel_rfl), w72 _ _ hp⟩
  · cases hs
noncomputable def G72 : Gam := (72, .body, norm s72) :: G44
theorem G72_ok : GamOk Try.prog G72 := gamOk_cons sound_72 G44_ok
end Go.Proofs.AMT
namespace Go.AM.LN
theorem dm_add (x y q r : Nat) (hy : 0 < y) (hr : r < y) (h : x = q * y + r) : x / y = q ∧ x % y = r := by
  subst h
  exact ⟨by rw [Nat.add_comm, Nat.add_mul_div_right _ _ hy, Nat.div_eq_of_lt hr, Nat.zero_add], by rw [Nat.add_comm, Nat.add_mul_mod_self_right, Nat.mod_eq_of_lt hr]⟩
theorem nat_lim {n : Nat} (h : n < 18446744073709551616) : 0 ≤ (n : Int) ∧ (n : Int) < 18446744073709551616 := by omega
/-- One word of a long division by one word. -/
theorem word_step {a o : List Int} {i n r : Nat} (la : lim a) (hn : 0 < n) (hr : r < n) (hi : i < a.length) (hl : o.length = a.length)
    (h : val (o.drop (i + 1)) = val (a.drop (i + 1)) / n ∧ r = val (a.drop (i + 1)) % n) :
    val ((o.set i (((r * 18446744073709551616 + (a.getD i 0).toNat) / n : Nat) : Int)).drop i) = val (a.drop i) / n ∧ (r * 18446744073709551616 + (a.getD i 0).toNat) % n = val (a.drop i) % n := by
  rw [drop_set_cons (by omega), drop_cons hi]
  simp only [val, Int.toNat_natCast]
  rw [h.1]
  have e := Nat.div_add_mod (val (a.drop (i + 1))) n
  rw [← h.2] at e
  generalize val (a.drop (i + 1)) = d at *
  generalize (a.getD i 0).toNat = x at *
  have e2 := Nat.div_add_mod (r * 18446744073709551616 + x) n
  have e3 := Nat.mod_lt (r * 18446744073709551616 + x) hn
  have key : x + 18446744073709551616 * d = ((r * 18446744073709551616 + x) / n + 18446744073709551616 * (d / n)) * n + (r * 18446744073709551616 + x) % n := by
    have : 18446744073709551616 * d = 18446744073709551616 * (n * (d / n)) + 18446744073709551616 * r := by rw [← Nat.mul_add, e]
    rw [Nat.add_mul, this, Nat.mul_comm _ n, show 18446744073709551616 * (d / n) * n = 18446744073709551616 * (n * (d / n)) by ac_rfl]
    omega
  have := dm_add _ n _ _ hn e3 key
  exact ⟨this.1.symm, this.2.symm⟩
theorem word_lt {x r n : Nat} (hn : 0 < n) (hr : r < n) (hx : x < 18446744073709551616) : (r * 18446744073709551616 + x) / n < 18446744073709551616 := by
  rw [Nat.div_lt_iff_lt_mul hn]
  have : (r + 1) * 18446744073709551616 ≤ n * 18446744073709551616 := Nat.mul_le_mul_right _ hr
  rw [Nat.mul_comm 18446744073709551616 n]
  omega
end Go.AM.LN
set_option maxRecDepth 20000
namespace Go.Proofs.AMT
open Go.AM Go.AM.LN
attribute [local congr] bindO_congr bindS_congr bindG_congr awpOps_congr aOne_congr awp_congr aCond_congr awpD_congr dOne_congr keysB_congr nOne_congr thenP_congr blockP_congr Chk_congr Brk_congr
noncomputable def s104 : CSpec := fun ds => match ds with
  | [.v (.int .u64 x)] => some (0 ≤ x ∧ x < 18446744073709551616, .one (.v (.int .i64 (64 - (blen x.toNat : Int)))))
  | _ => none
theorem s104_eq (x : Int) : norm s104 [.v (.int .u64 x)] = some (0 ≤ x ∧ x < 18446744073709551616, .one (.v (.int .i64 (64 - (blen x.toNat : Int))))) := rfl
theorem k104_67 : lk G72 67 = some (.body, norm s67) := rfl
set_option maxHeartbeats 20000000 in
theorem w104 (x : Int) (hp : 0 ≤ x ∧ x < 18446744073709551616) : awp ty G72 (code Try.f104) (retP ty Try.f104.results.toList (.one (.v (.int .i64 (64 - (blen x.toNat : Int)))))) (entry 0 [.v (.int .u64 x)]) [] := by
  unfold code
  simp only [Try.f104, Option.getD_some]
  all_goals repeat' (first
    | ((first
       | (with_reducible refine ops_k ?_; intro X hX)
       | (with_reducible refine opsN_k ?_; intro X hX)
       | (with_reducible show awp _ _ _ _ (keepL _ _) _)
       | with_reducible refine awp_cond_k ?_
       | (with_reducible refine Brk_i ?_ ?_ <;> intro hb <;> (try simp only [hb]) <;> have hq := hb <;> try simp only [decide_eq_true_eq, decide_eq_false_iff_not, gt_iff_lt, ge_iff_le, Int.not_lt, Int.not_le, beq_iff_eq, beq_eq_false_iff_ne, Bool.not_eq_true', Bool.not_eq_false', Bool.and_eq_true, Bool.or_eq_true, Bool.and_eq_false_imp, Bool.or_eq_false_iff, ne_eq, Classical.not_not] at hq)
       | with_reducible refine retP_ret_i ?_
       | with_reducible refine retP_normal_i ?_
       | (with_reducible (show bindG _ _ _ _ _); simp only [hall])) <;> try simp only [Go.AM.S1, Go.AM.S2, Go.AM.S3, Go.AM.S4, Go.AM.S5, Go.AM.S6, Go.AM.S7, Go.AM.S8, Go.AM.S9, Nat.reduceAdd, Nat.reduceMul, Nat.reduceSub, ↓reduceIte, Nat.reduceEqDiff, Nat.reduceLT, Nat.reduceLeDiff, reduceCtorEq, Int.reduceBEq, Int.reduceBNe, Nat.reduceBEq, Int.reduceEq, Int.reduceToNat, Int.reduceLE, Int.reduceLT, Nat.reduceDiv, Int.reduceAdd, Int.reduceSub, Int.reduceMul, Int.reduceNeg, Int.reduceGT, Int.reduceGE, Nat.reduceMod, k104_67, s67_eq, ty_3, ty_26])
    | (with_reducible refine hX _ _ ?_; clear hX X)
    | with_reducible refine ops_nil_i ?_
    | with_reducible refine opsN_nil_i ?_
    | (with_reducible refine hK _ _ ?_; clear hK K)
    | with_reducible refine thenP_normal_i ?_
    | with_reducible refine zzr1 _ _ ?_
    | with_reducible refine zzr0 _ _ ?_
    | (with_reducible refine awp_seq_l (a := .region 1 _ _) [2] ?_; intro Kzzr1 zzr1)
    | (with_reducible refine awp_seq_l (a := .region 0 _ _) [0] ?_; intro Kzzr0 zzr0)
    | (with_reducible refine awp_seq_k ?_; intro K hK)
    | (with_reducible refine awp_region_a ?_; intro all hall K hK)
    | (with_reducible refine awp_draw_n ?_ ?_; kernel_rfl; intro all hall K hK)
    | (with_reducible refine Chk_i ?_ ?_)
    | (with_reducible refine keysC_i ?_; kernel_rfl)
    | (with_reducible first | refine awp_block_i ?_ | refine awp_skip_i ?_ | refine awp_ret_i ?_ | refine awp_exit_i ?_ | refine thenP_ret_i ?_ | refine thenP_exit_i ?_ | refine lpP_ret_i ?_ | refine lpP_exit_i ?_ | refine unrP_succ_i ?_ | refine unrP_ret_i ?_ | refine unrP_exit_i ?_ | refine blockP_normal_i ?_ | refine blockP_ret_i ?_)
    | (with_reducible refine blockP_exit_i ?_; simp only [↓reduceIte, Nat.reduceEqDiff])
    | with_reducible refine lpP_normal_i ?_)
  all_goals (try simp only [inR])
  all_goals (have h1 : blen x.toNat ≤ 64 := blen_lt.2 (by omega))
  all_goals omega
theorem sound_104 : Sound Try.prog 104 .body (norm s104) := by
  refine sound_norm (sound_body Try.func104 (show Try.f104.body = some (code Try.f104) from rfl) (by kernel_rfl) tysOk G72_ok (drawOk_ok (by kernel_rfl) tysOk G72_ok) (by kernel_rfl) fun ds p r hs hp => ?_)
  unfold s104 at hs
  split at hs
  · cases hs; exact ⟨Nat.le_of_ble_eq_true (by kernel_rfl), w104 _ hp⟩
  · cases hs
noncomputable def G104 : Gam := (104, .body, norm s104) :: G72
theorem G104_ok : GamOk Try.prog G104 := gamOk_cons sound_104 G72_ok
noncomputable def s107 : CSpec := fun ds => match ds with
  | [.v (.int .u64 h), .v (.int .u64 l), .v (.int .u64 y)] => some ((0 ≤ h ∧ h < y) ∧ (0 ≤ l ∧ l < 18446744073709551616) ∧ y < 18446744073709551616 ∧ h = 0, .many [.v (.int .u64 ((h.toNat * 18446744073709551616 + l.toNat) / y.toNat : Nat)), .v (.int .u64 ((h.toNat * 18446744073709551616 + l.toNat) % y.toNat : Nat))])
  | _ => none
theorem s107_eq (h : Int) (l : Int) (y : Int) : norm s107 [.v (.int .u64 h), .v (.int .u64 l), .v (.int .u64 y)] = some ((0 ≤ h ∧ h < y) ∧ (0 ≤ l ∧ l < 18446744073709551616) ∧ y < 18446744073709551616 ∧ h = 0, .many [.v (.int .u64 ((h.toNat * 18446744073709551616 + l.toNat) / y.toNat : Nat)), .v (.int .u64 ((h.toNat * 18446744073709551616 + l.toNat) % y.toNat : Nat))]) := rfl
theorem k107_104 : lk G104 104 = some (.body, norm s104) := rfl
set_option maxHeartbeats 20000000 in
theorem w107 (h : Int) (l : Int) (y : Int) (hp : (0 ≤ h ∧ h < y) ∧ (0 ≤ l ∧ l < 18446744073709551616) ∧ y < 18446744073709551616 ∧ h = 0) : awp ty G104 (code Try.f107) (retP ty Try.f107.results.toList (.many [.v (.int .u64 ((h.toNat * 18446744073709551616 + l.toNat) / y.toNat : Nat)), .v (.int .u64 ((h.toNat * 18446744073709551616 + l.toNat) % y.toNat : Nat))])) (entry 0 [.v (.int .u64 h), .v (.int .u64 l), .v (.int .u64 y)]) [] := by
  unfold code
  simp only [Try.f107, Option.getD_some]
  have h0 : h = 0 := hp.2.2.2
  subst h0
  have g1 : (y == 0) = false := by simp; omega
  have g2 : decide (y ≤ 0) = false := by simp; omega
  obtain ⟨yn, rfl⟩ := Int.eq_ofNat_of_zero_le (show 0 ≤ y by omega)
  obtain ⟨ln, rfl⟩ := Int.eq_ofNat_of_zero_le hp.2.1.1
  have g3 : (ln : Int).tdiv (yn : Int) = ((ln / yn : Nat) : Int) := by rw [Int.tdiv_eq_ediv_of_nonneg (by omega)]; rfl
  have g4 : (ln : Int).tmod (yn : Int) = ((ln % yn : Nat) : Int) := by rw [Int.tmod_eq_emod_of_nonneg (by omega)]; rfl
  all_goals repeat' (first
    | ((first
       | (with_reducible refine ops_k ?_; intro X hX)
       | (with_reducible refine opsN_k ?_; intro X hX)
       | (with_reducible show awp _ _ _ _ (keepL _ _) _)
       | with_reducible refine awp_cond_k ?_
       | (with_reducible refine Brk_i ?_ ?_ <;> intro hb <;> (try simp only [hb]) <;> have hq := hb <;> try simp only [decide_eq_true_eq, decide_eq_false_iff_not, gt_iff_lt, ge_iff_le, Int.not_lt, Int.not_le, beq_iff_eq, beq_eq_false_iff_ne, Bool.not_eq_true', Bool.not_eq_false', Bool.and_eq_true, Bool.or_eq_true, Bool.and_eq_false_imp, Bool.or_eq_false_iff, ne_eq, Classical.not_not] at hq)
       | with_reducible refine retP_ret_i ?_
       | with_reducible refine retP_normal_i ?_
       | (with_reducible (show bindG _ _ _ _ _); simp only [hall])) <;> try simp only [Go.AM.S1, Go.AM.S2, Go.AM.S3, Go.AM.S4, Go.AM.S5, Go.AM.S6, Go.AM.S7, Go.AM.S8, Go.AM.S9, Nat.reduceAdd, Nat.reduceMul, Nat.reduceSub, ↓reduceIte, Nat.reduceEqDiff, Nat.reduceLT, Nat.reduceLeDiff, reduceCtorEq, Int.reduceBEq, Int.reduceBNe, Nat.reduceBEq, Int.reduceEq, Int.reduceToNat, Int.reduceLE, Int.reduceLT, Nat.reduceDiv, Int.reduceAdd, Int.reduceSub, Int.reduceMul, Int.reduceNeg, Int.reduceGT, Int.reduceGE, Nat.reduceMod, k107_104, s104_eq, ty_3, ty_26, ty_72, g1, g2, g3, g4])
    | (with_reducible refine hX _ _ ?_; clear hX X)
    | with_reducible refine ops_nil_i ?_
    | with_reducible refine opsN_nil_i ?_
    | (with_reducible refine hK _ _ ?_; clear hK K)
    | with_reducible refine thenP_normal_i ?_
    | with_reducible refine zzr28 _ _ ?_
    | with_reducible refine zzb2 _ _ ?_
    | with_reducible refine zzr27 _ _ ?_
    | with_reducible refine zzr26 _ _ ?_
    | with_reducible refine zzr25 _ _ ?_
    | with_reducible refine zzsr24 _ _ ?_
    | with_reducible refine zzr24 _ _ ?_
    | with_reducible refine zzr23 _ _ ?_
    | with_reducible refine zzr22 _ _ ?_
    | with_reducible refine zzr21 _ _ ?_
    | with_reducible refine zzb0 _ _ ?_
    | with_reducible refine zzr20 _ _ ?_
    | with_reducible refine zzr19 _ _ ?_
    | with_reducible refine zzr18 _ _ ?_
    | with_reducible refine zzsr17 _ _ ?_
    | with_reducible refine zzr17 _ _ ?_
    | with_reducible refine zzr16 _ _ ?_
    | with_reducible refine zzr15 _ _ ?_
    | with_reducible refine zzr14 _ _ ?_
    | with_reducible refine zzr13 _ _ ?_
    | with_reducible refine zzr12 _ _ ?_
    | with_reducible refine zzr11 _ _ ?_
    | with_reducible refine zzr10 _ _ ?_
    | with_reducible refine zzr9 _ _ ?_
    | with_reducible refine zzr8 _ _ ?_
    | with_reducible refine zzr7 _ _ ?_
    | with_reducible refine zzsr5 _ _ ?_
    | with_reducible refine zzr6 _ _ ?_
    | with_reducible refine zzr5 _ _ ?_
    | with_reducible refine zzsr3 _ _ ?_
    | with_reducible refine zzr3 _ _ ?_
    | with_reducible refine zzsr1 _ _ ?_
    | with_reducible refine zzr1 _ _ ?_
    | with_reducible refine zzr0 _ _ ?_
    | (with_reducible refine awp_seq_l (a := .region 28 _ _) [6, 7] ?_; intro Kzzr28 zzr28)
    | (with_reducible refine awp_seq_l (a := .block 2 _) [2, 8, 14, 15, 17, 18] ?_; intro Kzzb2 zzb2)
    | (with_reducible refine awp_seq_l (a := .region 27 _ _) [2, 8, 9, 10, 14, 15, 16, 17, 18, 120] ?_; intro Kzzr27 zzr27)
    | (with_reducible refine awp_seq_l (a := .region 26 _ _) [2, 8, 9, 10, 14, 15, 16, 17, 18] ?_; intro Kzzr26 zzr26)
    | (with_reducible refine awp_seq_l (a := .region 25 _ _) [2, 8, 9, 10, 14, 15, 16, 17, 18] ?_; intro Kzzr25 zzr25)
    | (with_reducible refine awp_seq_l (a := .seq (.region 24 _ _) _) [2, 8, 9, 10, 14, 15, 16, 17, 18] ?_; intro Kzzsr24 zzsr24)
    | (with_reducible refine awp_seq_l (a := .region 24 _ _) [2, 8, 9, 10, 14, 15, 16, 17, 18, 113] ?_; intro Kzzr24 zzr24)
    | (with_reducible refine awp_seq_l (a := .region 23 _ _) [2, 8, 9, 10, 14, 15, 16, 17, 18] ?_; intro Kzzr23 zzr23)
    | (with_reducible refine awp_seq_l (a := .region 22 _ _) [2, 8, 9, 10, 14, 15, 17, 18] ?_; intro Kzzr22 zzr22)
    | (with_reducible refine awp_seq_l (a := .region 21 _ _) [2, 8, 9, 10, 14, 15, 17] ?_; intro Kzzr21 zzr21)
    | (with_reducible refine awp_seq_l (a := .block 0 _) [2, 8, 9, 10, 11, 13, 14, 15] ?_; intro Kzzb0 zzb0)
    | (with_reducible refine awp_seq_l (a := .region 20 _ _) [2, 8, 9, 10, 11, 13, 14, 15, 16, 85] ?_; intro Kzzr20 zzr20)
    | (with_reducible refine awp_seq_l (a := .region 19 _ _) [2, 8, 9, 10, 11, 13, 14, 15, 16] ?_; intro Kzzr19 zzr19)
    | (with_reducible refine awp_seq_l (a := .region 18 _ _) [2, 8, 9, 10, 11, 13, 14, 15, 16] ?_; intro Kzzr18 zzr18)
    | (with_reducible refine awp_seq_l (a := .seq (.region 17 _ _) _) [2, 8, 9, 10, 11, 13, 14, 15, 16] ?_; intro Kzzsr17 zzsr17)
    | (with_reducible refine awp_seq_l (a := .region 17 _ _) [2, 8, 9, 10, 11, 13, 14, 15, 16, 78] ?_; intro Kzzr17 zzr17)
    | (with_reducible refine awp_seq_l (a := .region 16 _ _) [2, 8, 9, 10, 11, 13, 14, 15, 16] ?_; intro Kzzr16 zzr16)
    | (with_reducible refine awp_seq_l (a := .region 15 _ _) [2, 8, 9, 10, 11, 13, 14, 15] ?_; intro Kzzr15 zzr15)
    | (with_reducible refine awp_seq_l (a := .region 14 _ _) [2, 8, 9, 10, 11, 13, 14] ?_; intro Kzzr14 zzr14)
    | (with_reducible refine awp_seq_l (a := .region 13 _ _) [2, 8, 9, 10, 11, 12, 13] ?_; intro Kzzr13 zzr13)
    | (with_reducible refine awp_seq_l (a := .region 12 _ _) [2, 8, 9, 10, 11, 12] ?_; intro Kzzr12 zzr12)
    | (with_reducible refine awp_seq_l (a := .region 11 _ _) [1, 2, 8, 9, 10, 11] ?_; intro Kzzr11 zzr11)
    | (with_reducible refine awp_seq_l (a := .region 10 _ _) [0, 1, 2, 8, 9, 10] ?_; intro Kzzr10 zzr10)
    | (with_reducible refine awp_seq_l (a := .region 9 _ _) [0, 1, 2, 8, 9] ?_; intro Kzzr9 zzr9)
    | (with_reducible refine awp_seq_l (a := .region 8 _ _) [0, 1, 2, 8] ?_; intro Kzzr8 zzr8)
    | (with_reducible refine awp_seq_l (a := .region 7 _ _) [0, 1, 2, 8] ?_; intro Kzzr7 zzr7)
    | (with_reducible refine awp_seq_l (a := .seq (.region 5 _ _) _) [0, 1, 2] ?_; intro Kzzsr5 zzsr5)
    | (with_reducible refine awp_seq_l (a := .region 6 _ _) [6, 7] ?_; intro Kzzr6 zzr6)
    | (with_reducible refine awp_seq_l (a := .region 5 _ _) [0, 1, 2, 27] ?_; intro Kzzr5 zzr5)
    | (with_reducible refine awp_seq_l (a := .seq (.region 3 _ _) _) [0, 1, 2] ?_; intro Kzzsr3 zzsr3)
    | (with_reducible refine awp_seq_l (a := .region 3 _ _) [0, 1, 2, 24] ?_; intro Kzzr3 zzr3)
    | (with_reducible refine awp_seq_l (a := .seq (.region 1 _ _) _) [0, 1, 2] ?_; intro Kzzsr1 zzsr1)
    | (with_reducible refine awp_seq_l (a := .region 1 _ _) [0, 1, 2, 20] ?_; intro Kzzr1 zzr1)
    | (with_reducible refine awp_seq_l (a := .region 0 _ _) [0, 1, 2] ?_; intro Kzzr0 zzr0)
    | (with_reducible refine awp_seq_k ?_; intro K hK)
    | (with_reducible refine awp_region_a ?_; intro all hall K hK)
    | (with_reducible refine awp_draw_n ?_ ?_; kernel_rfl; intro all hall K hK)
    | (with_reducible refine Chk_i ?_ ?_)
    | (with_reducible refine keysC_i ?_; kernel_rfl)
    | (with_reducible first | refine awp_block_i ?_ | refine awp_skip_i ?_ | refine awp_ret_i ?_ | refine awp_exit_i ?_ | refine thenP_ret_i ?_ | refine thenP_exit_i ?_ | refine lpP_ret_i ?_ | refine lpP_exit_i ?_ | refine unrP_succ_i ?_ | refine unrP_ret_i ?_ | refine unrP_exit_i ?_ | refine blockP_normal_i ?_ | refine blockP_ret_i ?_)
    | (with_reducible refine blockP_exit_i ?_; simp only [↓reduceIte, Nat.reduceEqDiff])
    | with_reducible refine lpP_normal_i ?_)
  all_goals (try simp only [inR])
  all_goals (have h5 : ln / yn ≤ ln := Nat.div_le_self _ _)
  all_goals (generalize ln / yn = q at *)
  all_goals omega
theorem sound_107 : Sound Try.prog 107 .body (norm s107) := by
  refine sound_norm (sound_body Try.func107 (show Try.f107.body = some (code Try.f107) from rfl) (by kernel_rfl) tysOk G104_ok (drawOk_ok (by kernel_rfl) tysOk G104_ok) (by kernel_rfl) fun ds p r hs hp => ?_)
  unfold s107 at hs
  split at hs
  · cases hs; exact ⟨Nat.le_of_ble_eq_true (by kernel_rfl), w107 _ _ _ hp⟩
  · cases hs
noncomputable def G107 : Gam := (107, .body, norm s107) :: G104
theorem G107_ok : GamOk Try.prog G107 := gamOk_cons sound_107 G104_ok
noncomputable def s103 : CSpec := fun ds => match ds with
  | [.sl .u64 a, .v (.int .u64 n)] => some ((lim a ∧ a.length ≤ 100000000) ∧ (0 < n ∧ n < 18446744073709551616) ∧ n = 1, .many [.fresh .u64 (limbs (val a / n.toNat)), .v (.int .u64 ((val a % n.toNat : Nat)))])
  | _ => none
theorem s103_eq (a : List Int) (n : Int) : norm s103 [.sl .u64 a, .v (.int .u64 n)] = some ((lim a ∧ a.length ≤ 100000000) ∧ (0 < n ∧ n < 18446744073709551616) ∧ n = 1, .many [.fresh .u64 (limbs (val a / n.toNat)), .v (.int .u64 ((val a % n.toNat : Nat)))]) := rfl
theorem s103_nil1  (n : Int) : norm s103 [.v (.slice none 0 0), .v (.int .u64 n)] = some ((lim ([] : List Int) ∧ ([] : List Int).length ≤ 100000000) ∧ (0 < n ∧ n < 18446744073709551616) ∧ n = 1, .many [.fresh .u64 (limbs (val ([] : List Int) / n.toNat)), .v (.int .u64 ((val ([] : List Int) % n.toNat : Nat)))]) := rfl
theorem k103_71 : lk G107 71 = some (.body, norm s71) := rfl
theorem k103_107 : lk G107 107 = some (.body, norm s107) := rfl
set_option maxHeartbeats 20000000 in
theorem w103 (a : List Int) (n : Int) (hp : (lim a ∧ a.length ≤ 100000000) ∧ (0 < n ∧ n < 18446744073709551616) ∧ n = 1) : awp ty G107 (code Try.f103) (retP ty Try.f103.results.toList (.many [.fresh .u64 (limbs (val a / n.toNat)), .v (.int .u64 ((val a % n.toNat : Nat)))])) (entry 0 [.sl .u64 a, .v (.int .u64 n)]) [] := by
  unfold code
  simp only [Try.f103, Option.getD_some]
  obtain ⟨m, rfl⟩ := Int.eq_ofNat_of_zero_le (show 0 ≤ n by omega)
  all_goals repeat' (first
    | ((first
       | (with_reducible refine ops_k ?_; intro X hX)
       | (with_reducible refine opsN_k ?_; intro X hX)
       | (with_reducible show awp _ _ _ _ (keepL _ _) _)
       | with_reducible refine awp_cond_k ?_
       | (with_reducible refine Brk_i ?_ ?_ <;> intro hb <;> (try simp only [hb]) <;> have hq := hb <;> try simp only [decide_eq_true_eq, decide_eq_false_iff_not, gt_iff_lt, ge_iff_le, Int.not_lt, Int.not_le, beq_iff_eq, beq_eq_false_iff_ne, Bool.not_eq_true', Bool.not_eq_false', Bool.and_eq_true, Bool.or_eq_true, Bool.and_eq_false_imp, Bool.or_eq_false_iff, ne_eq, Classical.not_not] at hq)
       | with_reducible refine retP_ret_i ?_
       | with_reducible refine retP_normal_i ?_
       | (with_reducible (show bindG _ _ _ _ _); simp only [hall])) <;> try simp only [Go.AM.S1, Go.AM.S2, Go.AM.S3, Go.AM.S4, Go.AM.S5, Go.AM.S6, Go.AM.S7, Go.AM.S8, Go.AM.S9, Nat.reduceAdd, Nat.reduceMul, Nat.reduceSub, ↓reduceIte, Nat.reduceEqDiff, Nat.reduceLT, Nat.reduceLeDiff, reduceCtorEq, Int.reduceBEq, Int.reduceBNe, Nat.reduceBEq, Int.reduceEq, Int.reduceToNat, Int.reduceLE, Int.reduceLT, Nat.reduceDiv, Int.reduceAdd, Int.reduceSub, Int.reduceMul, Int.reduceNeg, Int.reduceGT, Int.reduceGE, Nat.reduceMod, k103_71, s71_eq, s71_nil1, k103_107, s107_eq, ty_3, ty_26, ty_42, List.length_replicate])
    | (with_reducible refine hX _ _ ?_; clear hX X)
    | with_reducible refine ops_nil_i ?_
    | with_reducible refine opsN_nil_i ?_
    | (with_reducible refine hK _ _ ?_; clear hK K)
    | with_reducible refine thenP_normal_i ?_
    | with_reducible refine zzr7 _ _ ?_
    | with_reducible refine zzsr3 _ _ ?_
    | with_reducible refine zzb1 _ _ ?_
    | with_reducible refine zzsr4 _ _ ?_
    | with_reducible refine zzr4 _ _ ?_
    | with_reducible refine zzr3 _ _ ?_
    | with_reducible refine zzr2 _ _ ?_
    | with_reducible refine zzr1 _ _ ?_
    | with_reducible refine zzr0 _ _ ?_
    | (with_reducible refine awp_lp (σ := Nat × Nat × List Int) (fun s => s.1 ≤ a.length ∧ s.2.1 < m ∧ lim s.2.2 ∧ s.2.2.length = a.length ∧ val (s.2.2.drop s.1) = val (a.drop s.1) / m ∧ s.2.1 = val (a.drop s.1) % m) (fun s => [(0, .rd .u64 a), (1, .v (.int .u64 m)), (6, .ow 176), (7, .v (.int .u64 s.2.1)), (8, .v (.int .i64 ((s.1 : Int) - 1)))]) (fun s => [(176, .ints .u64 s.2.2, false)]) (fun s => s.1) (a.length, 0, List.replicate a.length 0) ?_ ?_ (fun s hs => ?_))
    | (with_reducible refine awp_seq_l (a := .region 7 _ _) [4, 5] ?_; intro Kzzr7 zzr7)
    | (with_reducible refine awp_seq_l (a := .seq (.region 3 _ _) _) [6, 7] ?_; intro Kzzsr3 zzsr3)
    | (with_reducible refine awp_seq_l (a := .block 1 _) [0, 1, 6, 7, 8] ?_; intro Kzzb1 zzb1)
    | (with_reducible refine awp_seq_l (a := .seq (.region 4 _ _) _) [0, 1, 6, 7, 8] ?_; intro Kzzsr4 zzsr4)
    | (with_reducible refine awp_seq_l (a := .region 4 _ _) [0, 1, 6, 7, 8, 16] ?_; intro Kzzr4 zzr4)
    | (with_reducible refine awp_seq_l (a := .region 3 _ _) [0, 1, 6, 7, 8] ?_; intro Kzzr3 zzr3)
    | (with_reducible refine awp_seq_l (a := .region 2 _ _) [0, 1, 6, 7] ?_; intro Kzzr2 zzr2)
    | (with_reducible refine awp_seq_l (a := .region 1 _ _) [0, 1, 6] ?_; intro Kzzr1 zzr1)
    | (with_reducible refine awp_seq_l (a := .region 0 _ _) [0, 1] ?_; intro Kzzr0 zzr0)
    | (with_reducible refine awp_seq_k ?_; intro K hK)
    | (with_reducible refine awp_region_a ?_; intro all hall K hK)
    | (with_reducible refine awp_draw_n ?_ ?_; kernel_rfl; intro all hall K hK)
    | (with_reducible refine Chk_i ?_ ?_)
    | (with_reducible refine keysC_i ?_; kernel_rfl)
    | (with_reducible first | refine awp_block_i ?_ | refine awp_skip_i ?_ | refine awp_ret_i ?_ | refine awp_exit_i ?_ | refine thenP_ret_i ?_ | refine thenP_exit_i ?_ | refine lpP_ret_i ?_ | refine lpP_exit_i ?_ | refine unrP_succ_i ?_ | refine unrP_ret_i ?_ | refine unrP_exit_i ?_ | refine blockP_normal_i ?_ | refine blockP_ret_i ?_)
    | (with_reducible refine blockP_exit_i ?_; simp only [↓reduceIte, Nat.reduceEqDiff])
    | with_reducible refine lpP_normal_i ?_)
  all_goals (try (rcases s with ⟨i, c, o⟩))
  all_goals (try dsimp only at *)
  all_goals (try simp only [inR])
  all_goals (try omega)
  · refine ⟨Nat.le_refl _, by omega, lim_rep _, by simp, ?_, ?_⟩
    · rw [List.drop_of_length_le (by simp), List.drop_length]; simp [val]
    · rw [List.drop_length]; simp [val]
  · exact Ent.refl _ _
  · have h1 := lim_get hp.1.1 (i := ((i : Int) - 1).toNat)
    omega
  · have e : ((i : Int) - 1).toNat = i - 1 := by omega
    rw [e]
    have h1 := lim_get hp.1.1 (i := i - 1)
    have h2 := word_step (i := i - 1) hp.1.1 (by omega) hs.2.1 (by omega) hs.2.2.2.1 (by rw [show i - 1 + 1 = i by omega]; exact hs.2.2.2.2)
    have h3 := word_lt (n := m) (by omega) hs.2.1 (show (a.getD (i - 1) 0).toNat < 18446744073709551616 by omega)
    have h4 := Nat.mod_lt (c * 18446744073709551616 + (a.getD (i - 1) 0).toNat) (show 0 < m by omega)
    refine ⟨(i - 1, (c * 18446744073709551616 + (a.getD (i - 1) 0).toNat) % m, o.set (i - 1) (((c * 18446744073709551616 + (a.getD (i - 1) 0).toNat) / m : Nat) : Int)), by (refine ent_ok [(176, 176)] rfl ?_ ?_ <;> simp only [memLe, slotsLe, AvLe, lk, ↓reduceIte, Nat.reduceEqDiff, Option.isSome_some, and_self, and_true, true_and, reduceCtorEq, List.map_nil, List.map_cons, Option.some.injEq, AV.v.injEq, Value.int.injEq, Value.bool.injEq, AV.rd.injEq, AV.ow.injEq, AV.al.injEq, AV.ref.injEq] <;> omega), ⟨by dsimp only; omega, h4, lim_set hs.2.2.1 (nat_lim h3) _, by simp [hs.2.2.2.1], h2.1, h2.2⟩, by dsimp only; omega⟩
  · have h6 := sz_le o
    omega
  · have h0 : i = 0 := by omega
    subst h0
    have h1 := hs.2.2.2.2
    rw [List.drop_zero, List.drop_zero] at h1
    rw [take_sz hs.2.2.1, h1.1, ← h1.2]
    all_goals (first | rfl | exact ⟨rfl, rfl⟩ | exact ⟨⟨rfl, rfl⟩, rfl⟩)
theorem sound_103 : Sound Try.prog 103 .body (norm s103) := by
  refine sound_norm (sound_body Try.func103 (show Try.f103.body = some (code Try.f103) from rfl) (by kernel_rfl) tysOk G107_ok (drawOk_ok (by kernel_rfl) tysOk G107_ok) (by kernel_rfl) fun ds p r hs hp => ?_)
  unfold s103 at hs
  split at hs
  · cases hs; exact ⟨Nat.le_of_ble_eq_true (by kernel_rfl), w103 _ _ hp⟩
  · cases hs
noncomputable def G103 : Gam := (103, .body, norm s103) :: G107
theorem G103_ok : GamOk Try.prog G103 := gamOk_cons sound_103 G107_ok
end Go.Proofs.AMT
