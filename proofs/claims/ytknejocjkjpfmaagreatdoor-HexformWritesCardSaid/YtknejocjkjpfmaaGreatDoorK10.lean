/- Part 10 of the proof: own text (Fcaliperref02small, Fcaliperref02Decimal, Fcaliperref07Others, Fcaliperref11low, Fcaliperref11Write, Fcaliperlaw11HexformWrites). -/
import Derived.Test.YtknejocjkjpfmaaGreatDoorK0
import Derived.Test.YtknejocjkjpfmaaGreatDoorK1
import Derived.Test.YtknejocjkjpfmaaGreatDoorK2
import Derived.Test.YtknejocjkjpfmaaGreatDoorK3
import Derived.Test.YtknejocjkjpfmaaGreatDoorK4
import Derived.Test.YtknejocjkjpfmaaGreatDoorK5
import Derived.Test.YtknejocjkjpfmaaGreatDoorK6
import Derived.Test.YtknejocjkjpfmaaGreatDoorK7
import Derived.Test.YtknejocjkjpfmaaGreatDoorK8
import Derived.Test.YtknejocjkjpfmaaGreatDoorK9
set_option linter.all false
set_option maxRecDepth 20000
namespace Go.Proofs.AMT
open Go.AM Go.AM.LN
attribute [local congr] bindO_congr bindS_congr bindG_congr awpOps_congr aOne_congr awp_congr aCond_congr awpD_congr dOne_congr keysB_congr nOne_congr thenP_congr blockP_congr Chk_congr Brk_congr
noncomputable def s58 : CSpec := fun ds => match ds with
  | [.sl .u64 a, .v (.int .u64 n)] => some ((lim a ∧ a.length ≤ 100000000) ∧ 0 < n ∧ n < 18446744073709551616, .many [.fresh .u64 (limbs (val a / n.toNat)), .fresh .u64 (limbs (val a % n.toNat))])
  | _ => none
theorem s58_eq (a : List Int) (n : Int) : norm s58 [.sl .u64 a, .v (.int .u64 n)] = some ((lim a ∧ a.length ≤ 100000000) ∧ 0 < n ∧ n < 18446744073709551616, .many [.fresh .u64 (limbs (val a / n.toNat)), .fresh .u64 (limbs (val a % n.toNat))]) := rfl
theorem s58_nil1  (n : Int) : norm s58 [.v (.slice none 0 0), .v (.int .u64 n)] = some ((lim ([] : List Int) ∧ ([] : List Int).length ≤ 100000000) ∧ 0 < n ∧ n < 18446744073709551616, .many [.fresh .u64 (limbs (val ([] : List Int) / n.toNat)), .fresh .u64 (limbs (val ([] : List Int) % n.toNat))]) := rfl
noncomputable def G58 : Gam := [(38, .body, norm s38), (65, .body, norm s65), (79, .body, norm s79)]
theorem G58_ok : GamOk Tryz.prog G58 := gamOk_cons sound_38 (gamOk_cons sound_65 (gamOk_cons sound_79 gamOk_nil))
theorem k58_38 : lk G58 38 = some (.body, norm s38) := rfl
theorem k58_65 : lk G58 65 = some (.body, norm s65) := rfl
theorem k58_79 : lk G58 79 = some (.body, norm s79) := rfl
set_option maxHeartbeats 20000000 in
theorem wk58 (a : List Int) (n : Int) (hp : (lim a ∧ a.length ≤ 100000000) ∧ 0 < n ∧ n < 18446744073709551616) : awp ty G58 (code Tryz.f58) (retP ty Tryz.f58.results.toList (.many [.fresh .u64 (limbs (val a / n.toNat)), .fresh .u64 (limbs (val a % n.toNat))])) (entry 0 [.sl .u64 a, .v (.int .u64 n)]) [] := by
  unfold code
  simp only [Tryz.f58, Option.getD_some]
  obtain ⟨m, rfl⟩ := Int.eq_ofNat_of_zero_le (show 0 ≤ n by omega)
  all_goals repeat' (first
    | ((first
       | (with_reducible refine ops_k ?_; intro X hX)
       | (with_reducible refine opsN_k ?_; intro X hX)
       | (with_reducible show awp _ _ _ _ (keepL _ _) _)
       | with_reducible refine awp_cond_k ?_
       | (with_reducible refine Brk_i ?_ ?_ <;> intro hb <;> (try simp only [hb]) <;> have hq := hb <;> try simp only [decide_eq_true_eq, decide_eq_false_iff_not, gt_iff_lt, ge_iff_le, Int.not_lt, Int.not_le, beq_iff_eq, beq_eq_false_iff_ne, Bool.not_eq_true', Bool.not_eq_false', Bool.and_eq_true, Bool.or_eq_true, Bool.and_eq_false_imp, Bool.or_eq_false_iff, ne_eq, Classical.not_not] at hq)
       | with_reducible refine retP_ret_i ?_
       | with_reducible refine retP_normal_i ?_
       | (with_reducible (show bindG _ _ _ _ _); simp only [hall])) <;> try simp only [Go.AM.S1, Go.AM.S2, Go.AM.S3, Go.AM.S4, Go.AM.S5, Go.AM.S6, Go.AM.S7, Go.AM.S8, Go.AM.S9, Nat.reduceAdd, Nat.reduceMul, Nat.reduceSub, ↓reduceIte, Nat.reduceEqDiff, Nat.reduceLT, Nat.reduceLeDiff, reduceCtorEq, Int.reduceBEq, Int.reduceBNe, Nat.reduceBEq, Int.reduceEq, Int.reduceToNat, Int.reduceLE, Int.reduceLT, Nat.reduceDiv, Int.reduceAdd, Int.reduceSub, Int.reduceMul, Int.reduceNeg, Int.reduceGT, Int.reduceGE, Nat.reduceMod, k58_38, s38_eq, s38_nil1, k58_65, s65_eq, k58_79, s79_eq, ty_3, ty_22, ty_40, List.length_replicate])
    | (with_reducible refine hX _ _ ?_; clear hX X)
    | (with_reducible refine ops_nil_i ?_; try clear hall all)
    | (with_reducible refine opsN_nil_i ?_; try clear hall all)
    | (with_reducible refine hK _ _ ?_; clear hK K)
    | with_reducible refine thenP_normal_i ?_
    | (with_reducible refine zzr7 _ _ ?_; try clear zzr7 Kzzr7)
    | (with_reducible refine zzsr3 _ _ ?_; try clear zzsr3 Kzzsr3)
    | (with_reducible refine zzb1 _ _ ?_; try clear zzb1 Kzzb1)
    | (with_reducible refine zzsr4 _ _ ?_; try clear zzsr4 Kzzsr4)
    | (with_reducible refine zzr4 _ _ ?_; try clear zzr4 Kzzr4)
    | (with_reducible refine zzr3 _ _ ?_; try clear zzr3 Kzzr3)
    | (with_reducible refine zzr2 _ _ ?_; try clear zzr2 Kzzr2)
    | (with_reducible refine zzr1 _ _ ?_; try clear zzr1 Kzzr1)
    | (with_reducible refine zzr0 _ _ ?_; try clear zzr0 Kzzr0)
    | (with_reducible refine awp_lp (σ := Nat × Nat × List Int) (fun s => (s.1 ≤ a.length ∧ s.2.1 < m ∧ s.2.2.length = a.length) ∧ lim s.2.2 ∧ val (s.2.2.drop s.1) = val (a.drop s.1) / m ∧ s.2.1 = val (a.drop s.1) % m) (fun s => [(0, .rd .u64 a), (1, .v (.int .u64 m)), (6, .ow 176), (7, .v (.int .u64 s.2.1)), (8, .v (.int .i64 ((s.1 : Int) - 1)))]) (fun s => [(176, .ints .u64 s.2.2, false)]) (fun s => s.1) (a.length, 0, List.replicate a.length 0) ?_ ?_ (fun s hs => ?_))
    | (with_reducible refine awp_seq_l (a := .region 7 _ _) [4, 5] ?_; intro Kzzr7 zzr7)
    | (with_reducible refine awp_seq_l (a := .seq (.region 3 _ _) _) [6, 7] ?_; intro Kzzsr3 zzsr3)
    | (with_reducible refine awp_seq_l (a := .block 1 _) [0, 1, 6, 7, 8] ?_; intro Kzzb1 zzb1)
    | (with_reducible refine awp_seq_l (a := .seq (.region 4 _ _) _) [0, 1, 6, 7, 8] ?_; intro Kzzsr4 zzsr4)
    | (with_reducible refine awp_seq_l (a := .region 4 _ _) [0, 1, 6, 7, 8, 16] ?_; intro Kzzr4 zzr4)
    | (with_reducible refine awp_seq_l (a := .region 3 _ _) [0, 1, 6, 7, 8] ?_; intro Kzzr3 zzr3)
    | (with_reducible refine awp_seq_l (a := .region 2 _ _) [0, 1, 6, 7] ?_; intro Kzzr2 zzr2)
    | (with_reducible refine awp_seq_l (a := .region 1 _ _) [0, 1, 6] ?_; intro Kzzr1 zzr1)
    | (with_reducible refine awp_seq_l (a := .region 0 _ _) [0, 1] ?_; intro Kzzr0 zzr0)
    | (with_reducible refine awp_seq_k ?_; intro K hK)
    | (with_reducible refine awp_region_a ?_; intro all hall K hK)
    | (with_reducible refine awp_draw_n ?_ ?_; kernel_rfl; intro all hall K hK)
    | (with_reducible refine Chk_i ?_ ?_)
    | (with_reducible refine keysC_i ?_; kernel_rfl)
    | (with_reducible first | refine awp_block_i ?_ | refine awp_skip_i ?_ | refine awp_ret_i ?_ | refine awp_exit_i ?_ | refine thenP_ret_i ?_ | refine thenP_exit_i ?_ | refine lpP_ret_i ?_ | refine lpP_exit_i ?_ | refine unrP_succ_i ?_ | refine unrP_ret_i ?_ | refine unrP_exit_i ?_ | refine blockP_normal_i ?_ | refine blockP_ret_i ?_)
    | (with_reducible refine blockP_exit_i ?_; simp only [↓reduceIte, Nat.reduceEqDiff])
    | with_reducible refine lpP_normal_i ?_)
  all_goals (try clear zzr0; try clear Kzzr0)
  all_goals (try clear zzr1; try clear Kzzr1)
  all_goals (try clear zzr2; try clear Kzzr2)
  all_goals (try clear zzr3; try clear Kzzr3)
  all_goals (try clear zzr4; try clear Kzzr4)
  all_goals (try clear zzsr4; try clear Kzzsr4)
  all_goals (try clear zzb1; try clear Kzzb1)
  all_goals (try clear zzsr3; try clear Kzzsr3)
  all_goals (try clear zzr7; try clear Kzzr7)
  all_goals (try (rcases s with ⟨i, c, o⟩))
  all_goals (try (obtain ⟨ss, hs⟩ := hs))
  all_goals (try dsimp only at *)
  all_goals (try simp only [inR])
  all_goals (try omega)
  · refine ⟨⟨Nat.le_refl _, by omega, by simp⟩, lim_rep _, ?_, ?_⟩
    · rw [List.drop_of_length_le (by simp), List.drop_length]; simp [val]
    · rw [List.drop_length]; simp [val]
  · exact Ent.refl _ _
  · have h1 := lim_get hp.1.1 (i := ((i : Int) - 1).toNat)
    exact ⟨⟨by omega, by omega⟩, h1, by omega, by omega⟩
  · have e : ((i : Int) - 1).toNat = i - 1 := by omega
    rw [e]
    have h1 := lim_get hp.1.1 (i := i - 1)
    have h2 := word_step (i := i - 1) hp.1.1 (show 0 < m by omega) (show c < m by omega) (by omega) (show o.length = a.length by omega) (by rw [show i - 1 + 1 = i by omega]; exact hs.2)
    have h3 := word_lt (n := m) (by omega) (show c < m by omega) (show (a.getD (i - 1) 0).toNat < 18446744073709551616 by omega)
    have h4 := Nat.mod_lt (c * 18446744073709551616 + (a.getD (i - 1) 0).toNat) (show 0 < m by omega)
    exact ⟨(i - 1, (c * 18446744073709551616 + (a.getD (i - 1) 0).toNat) % m, o.set (i - 1) (((c * 18446744073709551616 + (a.getD (i - 1) 0).toNat) / m : Nat) : Int)), by (refine ent_ok [(176, 176)] rfl ?_ ?_ <;> simp only [memLe, slotsLe, AvLe, lk, ↓reduceIte, Nat.reduceEqDiff, Option.isSome_some, and_self, and_true, true_and, reduceCtorEq, List.map_nil, List.map_cons, Option.some.injEq, AV.v.injEq, Value.int.injEq, Value.bool.injEq, AV.rd.injEq, AV.ow.injEq, AV.al.injEq, AV.ref.injEq] <;> omega), ⟨⟨by dsimp only; omega, h4, by simp; omega⟩, lim_set hs.1 (nat_lim h3) _, h2.1, h2.2⟩, by dsimp only; omega⟩
  · exact ⟨hs.1, by omega⟩
  · have h0 : i = 0 := by omega
    subst h0
    have h1 := hs.2
    rw [List.drop_zero, List.drop_zero] at h1
    rw [h1.1, h1.2]
    exact ⟨rfl, rfl⟩
theorem sound_58 : Sound Tryz.prog 58 .body (norm s58) := by
  refine sound_norm (sound_body Tryz.func58 (show Tryz.f58.body = some (code Tryz.f58) from rfl) (by kernel_rfl) tysOk G58_ok (drawOk_ok (by kernel_rfl) tysOk G58_ok) (by kernel_rfl) fun ds p r hs hp => ?_)
  unfold s58 at hs
  split at hs
  · cases hs; exact ⟨Nat.le_of_ble_eq_true (by kernel_rfl), wk58 _ _ hp⟩
  · cases hs
end Go.Proofs.AMT
set_option maxRecDepth 20000
namespace Go.Proofs.AMT
open Go.AM Go.AM.LN
attribute [local congr] bindO_congr bindS_congr bindG_congr awpOps_congr aOne_congr awp_congr aCond_congr awpD_congr dOne_congr keysB_congr nOne_congr thenP_congr blockP_congr Chk_congr Brk_congr
noncomputable def s35 : CSpec := fun ds => match ds with
  | [.sl .u64 a] => some ((lim a ∧ a.length ≤ 1000) ∧ val a < 2 ^ 256, .one (.v (.string (bs (decS (val a))))))
  | _ => none
theorem s35_eq (a : List Int) : norm s35 [.sl .u64 a] = some ((lim a ∧ a.length ≤ 1000) ∧ val a < 2 ^ 256, .one (.v (.string (bs (decS (val a)))))) := rfl
theorem s35_nil1  : norm s35 [.v (.slice none 0 0)] = some ((lim ([] : List Int) ∧ ([] : List Int).length ≤ 1000) ∧ val ([] : List Int) < 2 ^ 256, .one (.v (.string (bs (decS (val ([] : List Int))))))) := rfl
noncomputable def G35 : Gam := [(38, .body, norm s38), (39, .body, norm s39), (58, .body, norm s58)]
theorem G35_ok : GamOk Tryz.prog G35 := gamOk_cons sound_38 (gamOk_cons sound_39 (gamOk_cons sound_58 gamOk_nil))
theorem k35_38 : lk G35 38 = some (.body, norm s38) := rfl
theorem k35_39 : lk G35 39 = some (.body, norm s39) := rfl
theorem k35_58 : lk G35 58 = some (.body, norm s58) := rfl
set_option maxHeartbeats 20000000 in
theorem wk35 (a : List Int) (hp : (lim a ∧ a.length ≤ 1000) ∧ val a < 2 ^ 256) : awp ty G35 (code Tryz.f35) (retP ty Tryz.f35.results.toList (.one (.v (.string (bs (decS (val a))))))) (entry 0 [.sl .u64 a]) [] := by
  unfold code
  simp only [Tryz.f35, Option.getD_some]
  obtain ⟨hpl, hpv⟩ := hp
  obtain ⟨N, hx⟩ : ∃ N, val a = N := ⟨_, rfl⟩
  rw [hx] at hpv ⊢
  have hr10 : ∀ m : Nat, (m : Int).tmod 10 = ((m % 10 : Nat) : Int) := fun m => by rw [Int.tmod_eq_emod_of_nonneg (by omega)]; omega
  have hq10 : ∀ m : Nat, (m : Int).tdiv 10 = ((m / 10 : Nat) : Int) := fun m => by rw [Int.tdiv_eq_ediv_of_nonneg (by omega)]; omega
  have hch : ∀ m : Nat, (48 + ((m % 10 : Nat) : Int)) % 18446744073709551616 % 256 = ((48 + m % 10 : Nat) : Int) := fun m => by omega
  have hB : byteSl ty 85 = true := rfl
  have hln : ∀ s, lim (limbs (N / 10 ^ (18 * s))) ∧ (limbs (N / 10 ^ (18 * s))).length ≤ 100000000 := fun s =>
    ⟨lim_limbs _, Nat.le_trans (len4 (Nat.lt_of_le_of_lt (Nat.div_le_self _ _) hpv)) (by omega)⟩
  all_goals repeat' (first
    | ((first
       | (with_reducible refine ops_k ?_; intro X hX)
       | (with_reducible refine opsN_k ?_; intro X hX)
       | (with_reducible show awp _ _ _ _ (keepL _ _) _)
       | with_reducible refine awp_cond_k ?_
       | (with_reducible refine Brk_i ?_ ?_ <;> intro hb <;> (try simp only [hb]) <;> have hq := hb <;> try simp only [decide_eq_true_eq, decide_eq_false_iff_not, gt_iff_lt, ge_iff_le, Int.not_lt, Int.not_le, beq_iff_eq, beq_eq_false_iff_ne, Bool.not_eq_true', Bool.not_eq_false', Bool.and_eq_true, Bool.or_eq_true, Bool.and_eq_false_imp, Bool.or_eq_false_iff, ne_eq, Classical.not_not] at hq)
       | with_reducible refine retP_ret_i ?_
       | with_reducible refine retP_normal_i ?_
       | (with_reducible (show bindG _ _ _ _ _); simp only [hall])) <;> try simp only [Go.AM.S1, Go.AM.S2, Go.AM.S3, Go.AM.S4, Go.AM.S5, Go.AM.S6, Go.AM.S7, Go.AM.S8, Go.AM.S9, Nat.reduceAdd, Nat.reduceMul, Nat.reduceSub, ↓reduceIte, Nat.reduceEqDiff, Nat.reduceLT, Nat.reduceLeDiff, reduceCtorEq, Int.reduceBEq, Int.reduceBNe, Nat.reduceBEq, Int.reduceEq, Int.reduceToNat, Int.reduceLE, Int.reduceLT, Nat.reduceDiv, Int.reduceAdd, Int.reduceSub, Int.reduceMul, Int.reduceNeg, Int.reduceGT, Int.reduceGE, Nat.reduceMod, k35_38, s38_eq, s38_nil1, k35_39, s39_eq, s39_nil1, k35_58, s58_eq, s58_nil1, ty_3, ty_5, ty_9, ty_22, ty_40, ty_85, aOne_append, bindP_some, spAppend, intSl, yInts, killE, namesT, names, List.map_cons, List.map_nil, toInts, hx, val_limbs, List.length_append, lowD_len, upD_len, hr10, hq10, hch, hB, dvBytes, dvOf])
    | (with_reducible refine hX _ _ ?_; clear hX X)
    | (with_reducible refine ops_nil_i ?_; try clear hall all)
    | (with_reducible refine opsN_nil_i ?_; try clear hall all)
    | (with_reducible refine hK _ _ ?_; clear hK K)
    | with_reducible refine thenP_normal_i ?_
    | (with_reducible refine zzr21 _ _ ?_; try clear zzr21 Kzzr21)
    | (with_reducible refine zzsr16 _ _ ?_; try clear zzsr16 Kzzsr16)
    | (with_reducible refine zzb7 _ _ ?_; try clear zzb7 Kzzb7)
    | (with_reducible refine zzr18 _ _ ?_; try clear zzr18 Kzzr18)
    | (with_reducible refine zzctmp51 _ _ ?_; try clear zzctmp51 Kzzctmp51)
    | (with_reducible refine zzr17 _ _ ?_; try clear zzr17 Kzzr17)
    | (with_reducible refine zzr16 _ _ ?_; try clear zzr16 Kzzr16)
    | (with_reducible refine zzr15 _ _ ?_; try clear zzr15 Kzzr15)
    | (with_reducible refine zzb4 _ _ ?_; try clear zzb4 Kzzb4)
    | (with_reducible refine zzsr13 _ _ ?_; try clear zzsr13 Kzzsr13)
    | (with_reducible refine zzr13 _ _ ?_; try clear zzr13 Kzzr13)
    | (with_reducible refine zzr12 _ _ ?_; try clear zzr12 Kzzr12)
    | (with_reducible refine zzb0 _ _ ?_; try clear zzb0 Kzzb0)
    | (with_reducible refine zzsr6 _ _ ?_; try clear zzsr6 Kzzsr6)
    | (with_reducible refine zzb3 _ _ ?_; try clear zzb3 Kzzb3)
    | (with_reducible refine zzr8 _ _ ?_; try clear zzr8 Kzzr8)
    | (with_reducible refine zzctmp23 _ _ ?_; try clear zzctmp23 Kzzctmp23)
    | (with_reducible refine zzr7 _ _ ?_; try clear zzr7 Kzzr7)
    | (with_reducible refine zzr6 _ _ ?_; try clear zzr6 Kzzr6)
    | (with_reducible refine zzr5 _ _ ?_; try clear zzr5 Kzzr5)
    | (with_reducible refine zzr4 _ _ ?_; try clear zzr4 Kzzr4)
    | (with_reducible refine zzsr3 _ _ ?_; try clear zzsr3 Kzzsr3)
    | (with_reducible refine zzr3 _ _ ?_; try clear zzr3 Kzzr3)
    | (with_reducible refine zzr2 _ _ ?_; try clear zzr2 Kzzr2)
    | (with_reducible refine zzr1 _ _ ?_; try clear zzr1 Kzzr1)
    | (with_reducible refine zzr0 _ _ ?_; try clear zzr0 Kzzr0)
    | (with_reducible refine awp_lp (c := .seq (.seq (.region 3 _ _) _) _) (σ := Nat) (fun s => s ≤ 5) (fun s => [(0, .rd .u64 (limbs (N / 10 ^ (18 * s)))), (3, .ow 480)]) (fun s => [(480, .ints .u8 (lowD N (18 * s)), false)]) (fun s => N / 10 ^ (18 * s)) 0 ?_ ?_ (fun s hs => ?_))
    | (with_reducible refine awp_lp (c := .seq (.region 7 _ _) _) (σ := Nat) (fun z => z ≤ 18) (fun z => [(3, .ow 480), (4, .rd .u64 (limbs (N / 10 ^ (18 * (s + 1))))), (6, .v (.int .u64 (N / 10 ^ (18 * s) % 10 ^ 18 / 10 ^ z : Nat))), (22, .v (.int .i64 z))]) (fun z => [(480, .ints .u8 (lowD N (18 * s + z)), false)]) (fun z => 18 - z) 0 ?_ ?_ (fun z hz => ?_))
    | (with_reducible refine awp_lp (c := .seq (.seq (.region 13 _ _) _) _) (σ := Nat) (fun j => j ≤ 18 * s ∧ N < 10 ^ j) (fun j => [(3, .ow 480), (7, .v (.int .i64 j))]) (fun j => [(480, .ints .u8 (lowD N (18 * s)), false)]) (fun j => j) (18 * s) ?_ ?_ (fun j hj => ?_))
    | (with_reducible refine awp_lp (c := .seq (.region 17 _ _) _) (σ := Nat) (fun y => y ≤ j) (fun y => [(3, .ow 480), (7, .v (.int .i64 j)), (8, .ow 992), (49, .v (.int .i64 j)), (50, .v (.int .i64 y))]) (fun y => [(480, .ints .u8 (lowD N (18 * s)), false), (992, .ints .u8 (upD N j y), false)]) (fun y => j - y) 0 ?_ ?_ (fun y hy => ?_))
    | (with_reducible refine awp_seq_l (a := .region 21 _ _) [2] ?_; intro Kzzr21 zzr21)
    | (with_reducible refine awp_seq_l (a := .seq (.region 16 _ _) _) [8] ?_; intro Kzzsr16 zzsr16)
    | (with_reducible refine awp_seq_l (a := .block 7 _) [3, 7, 8, 49, 50] ?_; intro Kzzb7 zzb7)
    | (with_reducible refine awp_seq_l (a := .region 18 _ _) [3, 7, 8, 9, 49, 50] ?_; intro Kzzr18 zzr18)
    | (with_reducible refine awp_seq_l (a := .cond (.tmp 51) _ _) [3, 7, 8, 49, 50] ?_; intro Kzzctmp51 zzctmp51)
    | (with_reducible refine awp_seq_l (a := .region 17 _ _) [3, 7, 8, 49, 50, 51] ?_; intro Kzzr17 zzr17)
    | (with_reducible refine awp_seq_l (a := .region 16 _ _) [3, 7, 8, 49, 50] ?_; intro Kzzr16 zzr16)
    | (with_reducible refine awp_seq_l (a := .region 15 _ _) [3, 7, 8] ?_; intro Kzzr15 zzr15)
    | (with_reducible refine awp_seq_l (a := .block 4 _) [3, 7] ?_; intro Kzzb4 zzb4)
    | (with_reducible refine awp_seq_l (a := .seq (.region 13 _ _) _) [3, 7] ?_; intro Kzzsr13 zzsr13)
    | (with_reducible refine awp_seq_l (a := .region 13 _ _) [3, 7, 46] ?_; intro Kzzr13 zzr13)
    | (with_reducible refine awp_seq_l (a := .region 12 _ _) [3, 7] ?_; intro Kzzr12 zzr12)
    | (with_reducible refine awp_seq_l (a := .block 0 _) [3] ?_; intro Kzzb0 zzb0)
    | (with_reducible refine awp_seq_l (a := .seq (.region 6 _ _) _) [3, 4] ?_; intro Kzzsr6 zzsr6)
    | (with_reducible refine awp_seq_l (a := .block 3 _) [3, 4, 6, 22] ?_; intro Kzzb3 zzb3)
    | (with_reducible refine awp_seq_l (a := .region 8 _ _) [3, 4, 6, 22] ?_; intro Kzzr8 zzr8)
    | (with_reducible refine awp_seq_l (a := .cond (.tmp 23) _ _) [3, 4, 6, 22] ?_; intro Kzzctmp23 zzctmp23)
    | (with_reducible refine awp_seq_l (a := .region 7 _ _) [3, 4, 6, 22, 23] ?_; intro Kzzr7 zzr7)
    | (with_reducible refine awp_seq_l (a := .region 6 _ _) [3, 4, 6, 22] ?_; intro Kzzr6 zzr6)
    | (with_reducible refine awp_seq_l (a := .region 5 _ _) [3, 4, 6] ?_; intro Kzzr5 zzr5)
    | (with_reducible refine awp_seq_l (a := .region 4 _ _) [3, 4, 5] ?_; intro Kzzr4 zzr4)
    | (with_reducible refine awp_seq_l (a := .seq (.region 3 _ _) _) [0, 3] ?_; intro Kzzsr3 zzsr3)
    | (with_reducible refine awp_seq_l (a := .region 3 _ _) [0, 3, 14] ?_; intro Kzzr3 zzr3)
    | (with_reducible refine awp_seq_l (a := .region 2 _ _) [0, 3] ?_; intro Kzzr2 zzr2)
    | (with_reducible refine awp_seq_l (a := .region 1 _ _) [0, 3] ?_; intro Kzzr1 zzr1)
    | (with_reducible refine awp_seq_l (a := .region 0 _ _) [0] ?_; intro Kzzr0 zzr0)
    | (with_reducible refine awp_seq_k ?_; intro K hK)
    | (with_reducible refine awp_region_a ?_; intro all hall K hK)
    | (with_reducible refine awp_draw_n ?_ ?_; kernel_rfl; intro all hall K hK)
    | (with_reducible refine Chk_i ?_ ?_)
    | (with_reducible refine keysC_i ?_; kernel_rfl)
    | (with_reducible first | refine awp_block_i ?_ | refine awp_skip_i ?_ | refine awp_ret_i ?_ | refine awp_exit_i ?_ | refine thenP_ret_i ?_ | refine thenP_exit_i ?_ | refine lpP_ret_i ?_ | refine lpP_exit_i ?_ | refine unrP_succ_i ?_ | refine unrP_ret_i ?_ | refine unrP_exit_i ?_ | refine blockP_normal_i ?_ | refine blockP_ret_i ?_)
    | (with_reducible refine blockP_exit_i ?_; simp only [↓reduceIte, Nat.reduceEqDiff])
    | with_reducible refine lpP_normal_i ?_)
  all_goals (try clear zzr0; try clear Kzzr0)
  all_goals (try clear zzr1; try clear Kzzr1)
  all_goals (try clear zzr2; try clear Kzzr2)
  all_goals (try clear zzr3; try clear Kzzr3)
  all_goals (try clear zzsr3; try clear Kzzsr3)
  all_goals (try clear zzr4; try clear Kzzr4)
  all_goals (try clear zzr5; try clear Kzzr5)
  all_goals (try clear zzr6; try clear Kzzr6)
  all_goals (try clear zzr7; try clear Kzzr7)
  all_goals (try clear zzctmp23; try clear Kzzctmp23)
  all_goals (try clear zzr8; try clear Kzzr8)
  all_goals (try clear zzb3; try clear Kzzb3)
  all_goals (try clear zzsr6; try clear Kzzsr6)
  all_goals (try clear zzb0; try clear Kzzb0)
  all_goals (try clear zzr12; try clear Kzzr12)
  all_goals (try clear zzr13; try clear Kzzr13)
  all_goals (try clear zzsr13; try clear Kzzsr13)
  all_goals (try clear zzb4; try clear Kzzb4)
  all_goals (try clear zzr15; try clear Kzzr15)
  all_goals (try clear zzr16; try clear Kzzr16)
  all_goals (try clear zzr17; try clear Kzzr17)
  all_goals (try clear zzctmp51; try clear Kzzctmp51)
  all_goals (try clear zzr18; try clear Kzzr18)
  all_goals (try clear zzb7; try clear Kzzb7)
  all_goals (try clear zzsr16; try clear Kzzsr16)
  all_goals (try clear zzr21; try clear Kzzr21)
  all_goals clear hr10 hq10 hch hB
  all_goals (try simp only [inR])
  all_goals first
    | omega
    | exact Nat.le_refl _
    | exact hln _
    | exact ⟨hpl.1, by omega⟩
    | exact Ent.refl _ _
    | exact ⟨Nat.le_refl _, dec_rest (len_npos (by assumption))⟩
    | ((refine ent_ok [] rfl ?_ ?_ <;> simp [memLe, slotsLe, AvLe, lk, Ct.len, lowD, upD]); done)
    | ((refine ent_ok [(480, 480)] rfl ?_ ?_ <;> simp [memLe, slotsLe, AvLe, lk, Ct.len, lowD, upD]); done)
    | exact dec_bd _ _
    | (rw [dec_word, dec_next]; refine ent_ok [(480, 480)] rfl ?_ ?_ <;> simp [memLe, slotsLe, AvLe, lk, Ct.len, toInts])
    | (rw [low_dig (by assumption), div_pow10]; exact ⟨z + 1, (by (refine ent_ok [(480, 480)] rfl ?_ ?_ <;> simp only [memLe, slotsLe, AvLe, lk, ↓reduceIte, Nat.reduceEqDiff, Option.isSome_some, and_self, and_true, true_and, reduceCtorEq, List.map_nil, List.map_cons, Option.some.injEq, AV.v.injEq, Value.int.injEq, Value.bool.injEq, AV.rd.injEq, AV.ow.injEq, AV.al.injEq, AV.ref.injEq] <;> omega)), by omega, by omega⟩)
    | (have e : z = 18 := by omega
       subst e
       have h9 := len_pos (by assumption)
       have h8 := dec_few hpv h9
       exact ⟨s + 1, (by rw [show 18 * (s + 1) = 18 * s + 18 by omega]; (refine ent_ok [(480, 480)] rfl ?_ ?_ <;> simp only [memLe, slotsLe, AvLe, lk, ↓reduceIte, Nat.reduceEqDiff, Option.isSome_some, and_self, and_true, true_and, reduceCtorEq, List.map_nil, List.map_cons, Option.some.injEq, AV.v.injEq, Value.int.injEq, Value.bool.injEq, AV.rd.injEq, AV.ow.injEq, AV.al.injEq, AV.ref.injEq] <;> omega)), by omega, dec_less h9⟩)
    | exact ⟨j - 1, (by (refine ent_ok [(480, 480)] rfl ?_ ?_ <;> simp only [memLe, slotsLe, AvLe, lk, ↓reduceIte, Nat.reduceEqDiff, Option.isSome_some, and_self, and_true, true_and, reduceCtorEq, List.map_nil, List.map_cons, Option.some.injEq, AV.v.injEq, Value.int.injEq, Value.bool.injEq, AV.rd.injEq, AV.ow.injEq, AV.al.injEq, AV.ref.injEq] <;> omega)), ⟨by omega, dec_trim hj.2 (by omega) (trim_yes (by assumption) hj.1 (by assumption))⟩, by omega⟩
    | (rw [up_dig (by assumption) hj.1]; exact ⟨y + 1, (by (refine ent_ok [(480, 480), (992, 992)] rfl ?_ ?_ <;> simp only [memLe, slotsLe, AvLe, lk, ↓reduceIte, Nat.reduceEqDiff, Option.isSome_some, and_self, and_true, true_and, reduceCtorEq, List.map_nil, List.map_cons, Option.some.injEq, AV.v.injEq, Value.int.injEq, Value.bool.injEq, AV.rd.injEq, AV.ow.injEq, AV.al.injEq, AV.ref.injEq] <;> omega)), by omega, by omega⟩)
    | (rw [show y = j by omega, upD_fin hj.2 (.inl (by omega))])
    | (rw [show y = j by omega, upD_fin hj.2 (.inr (trim_no (by assumption) hj.1 (by assumption)))])
    | skip
theorem sound_35 : Sound Tryz.prog 35 .body (norm s35) := by
  refine sound_norm (sound_body Tryz.func35 (show Tryz.f35.body = some (code Tryz.f35) from rfl) (by kernel_rfl) tysOk G35_ok (drawOk_ok (by kernel_rfl) tysOk G35_ok) (by kernel_rfl) fun ds p r hs hp => ?_)
  unfold s35 at hs
  split at hs
  · cases hs; exact ⟨Nat.le_of_ble_eq_true (by kernel_rfl), wk35 _ hp⟩
  · cases hs
end Go.Proofs.AMT
set_option maxRecDepth 20000
namespace Go.Proofs.AMT
open Go.AM Go.AM.LN
attribute [local congr] bindO_congr bindS_congr bindG_congr awpOps_congr aOne_congr awp_congr aCond_congr awpD_congr dOne_congr keysB_congr nOne_congr thenP_congr blockP_congr Chk_congr Brk_congr
noncomputable def s13 : CSpec := fun ds => match ds with
  | [.v (.agg ⟨[.int .i64 cl, .bool sg, .bool si, .int .i64 ex, .int .u64 c0, .int .u64 c1, .int .u64 c2, .int .u64 c3]⟩)] => some ((cl = 2 ∨ cl = 3) ∧ (0 ≤ c0 ∧ c0 < 18446744073709551616) ∧ (0 ≤ c1 ∧ c1 < 18446744073709551616) ∧ (0 ≤ c2 ∧ c2 < 18446744073709551616) ∧ (0 ≤ c3 ∧ c3 < 18446744073709551616), .one (.v (.string (bs (nanT cl sg si (decS (V4 c0 c1 c2 c3)))))))
  | _ => none
theorem s13_eq (cl : Int) (sg : Bool) (si : Bool) (ex : Int) (c0 : Int) (c1 : Int) (c2 : Int) (c3 : Int) : norm s13 [.v (.agg #[.int .i64 cl, .bool sg, .bool si, .int .i64 ex, .int .u64 c0, .int .u64 c1, .int .u64 c2, .int .u64 c3])] = some ((cl = 2 ∨ cl = 3) ∧ (0 ≤ c0 ∧ c0 < 18446744073709551616) ∧ (0 ≤ c1 ∧ c1 < 18446744073709551616) ∧ (0 ≤ c2 ∧ c2 < 18446744073709551616) ∧ (0 ≤ c3 ∧ c3 < 18446744073709551616), .one (.v (.string (bs (nanT cl sg si (decS (V4 c0 c1 c2 c3))))))) := rfl
noncomputable def G13 : Gam := [(34, .body, norm s34), (35, .body, norm s35)]
theorem G13_ok : GamOk Tryz.prog G13 := gamOk_cons sound_34 (gamOk_cons sound_35 gamOk_nil)
theorem k13_34 : lk G13 34 = some (.body, norm s34) := rfl
theorem k13_35 : lk G13 35 = some (.body, norm s35) := rfl
set_option maxHeartbeats 20000000 in
theorem wk13 (cl : Int) (sg : Bool) (si : Bool) (ex : Int) (c0 : Int) (c1 : Int) (c2 : Int) (c3 : Int) (hp : (cl = 2 ∨ cl = 3) ∧ (0 ≤ c0 ∧ c0 < 18446744073709551616) ∧ (0 ≤ c1 ∧ c1 < 18446744073709551616) ∧ (0 ≤ c2 ∧ c2 < 18446744073709551616) ∧ (0 ≤ c3 ∧ c3 < 18446744073709551616)) : awp ty G13 (code Tryz.f13) (retP ty Tryz.f13.results.toList (.one (.v (.string (bs (nanT cl sg si (decS (V4 c0 c1 c2 c3)))))))) (entry 0 [.v (.agg #[.int .i64 cl, .bool sg, .bool si, .int .i64 ex, .int .u64 c0, .int .u64 c1, .int .u64 c2, .int .u64 c3])]) [] := by
  unfold code
  simp only [Tryz.f13, Option.getD_some]
  have hV : val [c0, c1, c2, c3] = (V4 c0 c1 c2 c3) := rfl
  have l4 := lim4 hp.2.1 hp.2.2.1 hp.2.2.2.1 hp.2.2.2.2
  have hlt := V4_lt hp.2.1 hp.2.2.1 hp.2.2.2.1 hp.2.2.2.2
  have hl := dec_len256 hlt
  all_goals repeat' (first
    | ((first
       | (with_reducible refine ops_k ?_; intro X hX)
       | (with_reducible refine opsN_k ?_; intro X hX)
       | (with_reducible show awp _ _ _ _ (keepL _ _) _)
       | with_reducible refine awp_cond_k ?_
       | (with_reducible refine Brk_i ?_ ?_ <;> intro hb <;> (try simp only [hb]) <;> have hq := hb <;> try simp only [decide_eq_true_eq, decide_eq_false_iff_not, gt_iff_lt, ge_iff_le, Int.not_lt, Int.not_le, beq_iff_eq, beq_eq_false_iff_ne, Bool.not_eq_true', Bool.not_eq_false', Bool.and_eq_true, Bool.or_eq_true, Bool.and_eq_false_imp, Bool.or_eq_false_iff, ne_eq, Classical.not_not] at hq)
       | with_reducible refine retP_ret_i ?_
       | with_reducible refine retP_normal_i ?_
       | (with_reducible (show bindG _ _ _ _ _); simp only [hall])) <;> try simp only [Go.AM.S1, Go.AM.S2, Go.AM.S3, Go.AM.S4, Go.AM.S5, Go.AM.S6, Go.AM.S7, Go.AM.S8, Go.AM.S9, Nat.reduceAdd, Nat.reduceMul, Nat.reduceSub, ↓reduceIte, Nat.reduceEqDiff, Nat.reduceLT, Nat.reduceLeDiff, reduceCtorEq, Int.reduceBEq, Int.reduceBNe, Nat.reduceBEq, Int.reduceEq, Int.reduceToNat, Int.reduceLE, Int.reduceLT, Nat.reduceDiv, Int.reduceAdd, Int.reduceSub, Int.reduceMul, Int.reduceNeg, Int.reduceGT, Int.reduceGE, Nat.reduceMod, k13_34, s34_eq, k13_35, s35_eq, s35_nil1, ty_3, ty_4, ty_9, ty_22, ty_24, ty_31, ty_40, ty_65, hV, toInts, bs_list])
    | (with_reducible refine hX _ _ ?_; clear hX X)
    | (with_reducible refine ops_nil_i ?_; try clear hall all)
    | (with_reducible refine opsN_nil_i ?_; try clear hall all)
    | (with_reducible refine hK _ _ ?_; clear hK K)
    | with_reducible refine thenP_normal_i ?_
    | (with_reducible refine zzr1 _ _ ?_; try clear zzr1 Kzzr1)
    | (with_reducible refine zzr0 _ _ ?_; try clear zzr0 Kzzr0)
    | (with_reducible refine awp_seq_l (a := .region 1 _ _) [2] ?_; intro Kzzr1 zzr1)
    | (with_reducible refine awp_seq_l (a := .region 0 _ _) [1] ?_; intro Kzzr0 zzr0)
    | (with_reducible refine awp_seq_k ?_; intro K hK)
    | (with_reducible refine awp_region_a ?_; intro all hall K hK)
    | (with_reducible refine awp_draw_n ?_ ?_; kernel_rfl; intro all hall K hK)
    | (with_reducible refine Chk_i ?_ ?_)
    | (with_reducible refine keysC_i ?_; kernel_rfl)
    | (with_reducible first | refine awp_block_i ?_ | refine awp_skip_i ?_ | refine awp_ret_i ?_ | refine awp_exit_i ?_ | refine thenP_ret_i ?_ | refine thenP_exit_i ?_ | refine lpP_ret_i ?_ | refine lpP_exit_i ?_ | refine unrP_succ_i ?_ | refine unrP_ret_i ?_ | refine unrP_exit_i ?_ | refine blockP_normal_i ?_ | refine blockP_ret_i ?_)
    | (with_reducible refine blockP_exit_i ?_; simp only [↓reduceIte, Nat.reduceEqDiff])
    | with_reducible refine lpP_normal_i ?_)
  all_goals (try clear zzr0; try clear Kzzr0)
  all_goals (try clear zzr1; try clear Kzzr1)
  all_goals (try simp only [inR])
  all_goals first
    | omega
    | exact ⟨⟨l4, Nat.le_of_ble_eq_true rfl⟩, hlt⟩
    | exact ⟨l4, hlt⟩
    | exact ⟨hp.1, by rw [bs_size]; omega⟩
    | skip
theorem sound_13 : Sound Tryz.prog 13 .body (norm s13) := by
  refine sound_norm (sound_body Tryz.func13 (show Tryz.f13.body = some (code Tryz.f13) from rfl) (by kernel_rfl) tysOk G13_ok (drawOk_ok (by kernel_rfl) tysOk G13_ok) (by kernel_rfl) fun ds p r hs hp => ?_)
  unfold s13 at hs
  split at hs
  · cases hs; exact ⟨Nat.le_of_ble_eq_true (by kernel_rfl), wk13 _ _ _ _ _ _ _ _ hp⟩
  · cases hs
end Go.Proofs.AMT
set_option maxRecDepth 20000
namespace Go.Proofs.AMT
open Go.AM Go.AM.LN
attribute [local congr] bindO_congr bindS_congr bindG_congr awpOps_congr aOne_congr awp_congr aCond_congr awpD_congr dOne_congr keysB_congr nOne_congr thenP_congr blockP_congr Chk_congr Brk_congr
noncomputable def s18 : CSpec := fun ds => match ds with
  | [.sl .u64 a] => some ((lim a ∧ limbs (val a) = a ∧ a.length ≤ 1000), .one (.v (.int .i64 (val a % 16 : Nat))))
  | _ => none
theorem s18_eq (a : List Int) : norm s18 [.sl .u64 a] = some ((lim a ∧ limbs (val a) = a ∧ a.length ≤ 1000), .one (.v (.int .i64 (val a % 16 : Nat)))) := rfl
theorem s18_nil1  : norm s18 [.v (.slice none 0 0)] = some ((lim ([] : List Int) ∧ limbs (val ([] : List Int)) = ([] : List Int) ∧ ([] : List Int).length ≤ 1000), .one (.v (.int .i64 (val ([] : List Int) % 16 : Nat)))) := rfl
noncomputable def G18 : Gam := []
theorem G18_ok : GamOk Tryz.prog G18 := gamOk_nil
set_option maxHeartbeats 20000000 in
theorem wk18 (a : List Int) (hp : (lim a ∧ limbs (val a) = a ∧ a.length ≤ 1000)) : awp ty G18 (code Tryz.f18) (retP ty Tryz.f18.results.toList (.one (.v (.int .i64 (val a % 16 : Nat))))) (entry 0 [.sl .u64 a]) [] := by
  unfold code
  simp only [Tryz.f18, Option.getD_some]
  have hz := @len_zero (val a)
  have hg := lim_get hp.1 (i := 0)
  have h0 := limbs_getD0 (val a)
  rw [hp.2.1] at h0
  have hl := congrArg List.length hp.2.1
  have hm := and_mask 4 (a := a.getD 0 0) hg (by omega)
  have e1 : (2 ^ 4 - 1 : Int) = 15 := rfl
  have e2 : (2 ^ 4 : Int) = 16 := rfl
  rw [e1, e2] at hm
  all_goals repeat' (first
    | ((first
       | (with_reducible refine ops_k ?_; intro X hX)
       | (with_reducible refine opsN_k ?_; intro X hX)
       | (with_reducible show awp _ _ _ _ (keepL _ _) _)
       | with_reducible refine awp_cond_k ?_
       | (with_reducible refine Brk_i ?_ ?_ <;> intro hb <;> (try simp only [hb]) <;> have hq := hb <;> try simp only [decide_eq_true_eq, decide_eq_false_iff_not, gt_iff_lt, ge_iff_le, Int.not_lt, Int.not_le, beq_iff_eq, beq_eq_false_iff_ne, Bool.not_eq_true', Bool.not_eq_false', Bool.and_eq_true, Bool.or_eq_true, Bool.and_eq_false_imp, Bool.or_eq_false_iff, ne_eq, Classical.not_not] at hq)
       | with_reducible refine retP_ret_i ?_
       | with_reducible refine retP_normal_i ?_
       | (with_reducible (show bindG _ _ _ _ _); simp only [hall])) <;> try simp only [Go.AM.S1, Go.AM.S2, Go.AM.S3, Go.AM.S4, Go.AM.S5, Go.AM.S6, Go.AM.S7, Go.AM.S8, Go.AM.S9, Nat.reduceAdd, Nat.reduceMul, Nat.reduceSub, ↓reduceIte, Nat.reduceEqDiff, Nat.reduceLT, Nat.reduceLeDiff, reduceCtorEq, Int.reduceBEq, Int.reduceBNe, Nat.reduceBEq, Int.reduceEq, Int.reduceToNat, Int.reduceLE, Int.reduceLT, Nat.reduceDiv, Int.reduceAdd, Int.reduceSub, Int.reduceMul, Int.reduceNeg, Int.reduceGT, Int.reduceGE, Nat.reduceMod, ty_3, ty_22, ty_40, hm])
    | (with_reducible refine hX _ _ ?_; clear hX X)
    | (with_reducible refine ops_nil_i ?_; try clear hall all)
    | (with_reducible refine opsN_nil_i ?_; try clear hall all)
    | (with_reducible refine hK _ _ ?_; clear hK K)
    | with_reducible refine thenP_normal_i ?_
    | (with_reducible refine zzr3 _ _ ?_; try clear zzr3 Kzzr3)
    | (with_reducible refine zzsr1 _ _ ?_; try clear zzsr1 Kzzsr1)
    | (with_reducible refine zzr2 _ _ ?_; try clear zzr2 Kzzr2)
    | (with_reducible refine zzr1 _ _ ?_; try clear zzr1 Kzzr1)
    | (with_reducible refine zzr0 _ _ ?_; try clear zzr0 Kzzr0)
    | (with_reducible refine awp_seq_l (a := .region 3 _ _) [2] ?_; intro Kzzr3 zzr3)
    | (with_reducible refine awp_seq_l (a := .seq (.region 1 _ _) _) [0] ?_; intro Kzzsr1 zzsr1)
    | (with_reducible refine awp_seq_l (a := .region 2 _ _) [2] ?_; intro Kzzr2 zzr2)
    | (with_reducible refine awp_seq_l (a := .region 1 _ _) [0, 5] ?_; intro Kzzr1 zzr1)
    | (with_reducible refine awp_seq_l (a := .region 0 _ _) [0] ?_; intro Kzzr0 zzr0)
    | (with_reducible refine awp_seq_k ?_; intro K hK)
    | (with_reducible refine awp_region_a ?_; intro all hall K hK)
    | (with_reducible refine awp_draw_n ?_ ?_; kernel_rfl; intro all hall K hK)
    | (with_reducible refine Chk_i ?_ ?_)
    | (with_reducible refine keysC_i ?_; kernel_rfl)
    | (with_reducible first | refine awp_block_i ?_ | refine awp_skip_i ?_ | refine awp_ret_i ?_ | refine awp_exit_i ?_ | refine thenP_ret_i ?_ | refine thenP_exit_i ?_ | refine lpP_ret_i ?_ | refine lpP_exit_i ?_ | refine unrP_succ_i ?_ | refine unrP_ret_i ?_ | refine unrP_exit_i ?_ | refine blockP_normal_i ?_ | refine blockP_ret_i ?_)
    | (with_reducible refine blockP_exit_i ?_; simp only [↓reduceIte, Nat.reduceEqDiff])
    | with_reducible refine lpP_normal_i ?_)
  all_goals (try clear zzr0; try clear Kzzr0)
  all_goals (try clear zzr1; try clear Kzzr1)
  all_goals (try clear zzr2; try clear Kzzr2)
  all_goals (try clear zzsr1; try clear Kzzsr1)
  all_goals (try clear zzr3; try clear Kzzr3)
  all_goals (try simp only [inR])
  all_goals first
    | omega
    | (rw [show val a = 0 by omega]; rfl)
    | (rw [h0]; congr 1; omega)
    | skip
theorem sound_18 : Sound Tryz.prog 18 .body (norm s18) := by
  refine sound_norm (sound_body Tryz.func18 (show Tryz.f18.body = some (code Tryz.f18) from rfl) (by kernel_rfl) tysOk G18_ok (drawOk_ok (by kernel_rfl) tysOk G18_ok) (by kernel_rfl) fun ds p r hs hp => ?_)
  unfold s18 at hs
  split at hs
  · cases hs; exact ⟨Nat.le_of_ble_eq_true (by kernel_rfl), wk18 _ hp⟩
  · cases hs
end Go.Proofs.AMT
set_option maxRecDepth 20000
namespace Go.Proofs.AMT
open Go.AM Go.AM.LN
attribute [local congr] bindO_congr bindS_congr bindG_congr awpOps_congr aOne_congr awp_congr aCond_congr awpD_congr dOne_congr keysB_congr nOne_congr thenP_congr blockP_congr Chk_congr Brk_congr
noncomputable def s6 : CSpec := fun ds => match ds with
  | [.v (.int .i64 n), .v (.agg ⟨[.int .u64 b0, .int .u64 b1, .int .u64 b2, .int .u64 b3]⟩)] => some ((0 ≤ b0 ∧ b0 < 18446744073709551616) ∧ (0 ≤ b1 ∧ b1 < 18446744073709551616) ∧ (0 ≤ b2 ∧ b2 < 18446744073709551616) ∧ (0 ≤ b3 ∧ b3 < 18446744073709551616), .many [.v (.string (bs (if okB n (V4 b0 b1 b2 b3) then hexA (dC n (V4 b0 b1 b2 b3)) (dS n (V4 b0 b1 b2 b3)) (dQ n (V4 b0 b1 b2 b3)) (dV n (V4 b0 b1 b2 b3)) (dX n (V4 b0 b1 b2 b3)) else []))), .v (.int .i64 (if okB n (V4 b0 b1 b2 b3) then 0 else 1))])
  | _ => none
theorem s6_eq (n : Int) (b0 b1 b2 b3 : Int) : norm s6 [.v (.int .i64 n), .v (.agg #[.int .u64 b0, .int .u64 b1, .int .u64 b2, .int .u64 b3])] = some ((0 ≤ b0 ∧ b0 < 18446744073709551616) ∧ (0 ≤ b1 ∧ b1 < 18446744073709551616) ∧ (0 ≤ b2 ∧ b2 < 18446744073709551616) ∧ (0 ≤ b3 ∧ b3 < 18446744073709551616), .many [.v (.string (bs (if okB n (V4 b0 b1 b2 b3) then hexA (dC n (V4 b0 b1 b2 b3)) (dS n (V4 b0 b1 b2 b3)) (dQ n (V4 b0 b1 b2 b3)) (dV n (V4 b0 b1 b2 b3)) (dX n (V4 b0 b1 b2 b3)) else []))), .v (.int .i64 (if okB n (V4 b0 b1 b2 b3) then 0 else 1))]) := rfl
noncomputable def G6 : Gam := [(11, .body, norm sItoa), (12, .body, norm s12), (13, .body, norm s13), (14, .body, norm s14), (15, .body, norm s15), (16, .body, norm s16), (17, .body, norm s17), (18, .body, norm s18)]
theorem G6_ok : GamOk Tryz.prog G6 := gamOk_cons sound_itoa (gamOk_cons sound_12 (gamOk_cons sound_13 (gamOk_cons sound_14 (gamOk_cons sound_15 (gamOk_cons sound_16 (gamOk_cons sound_17 (gamOk_cons sound_18 gamOk_nil)))))))
theorem k6_11 : lk G6 11 = some (.body, norm sItoa) := rfl
theorem k6_12 : lk G6 12 = some (.body, norm s12) := rfl
theorem k6_13 : lk G6 13 = some (.body, norm s13) := rfl
theorem k6_14 : lk G6 14 = some (.body, norm s14) := rfl
theorem k6_15 : lk G6 15 = some (.body, norm s15) := rfl
theorem k6_16 : lk G6 16 = some (.body, norm s16) := rfl
theorem k6_17 : lk G6 17 = some (.body, norm s17) := rfl
theorem k6_18 : lk G6 18 = some (.body, norm s18) := rfl
set_option maxHeartbeats 20000000 in
theorem wk6 (n : Int) (b0 b1 b2 b3 : Int) (hp : (0 ≤ b0 ∧ b0 < 18446744073709551616) ∧ (0 ≤ b1 ∧ b1 < 18446744073709551616) ∧ (0 ≤ b2 ∧ b2 < 18446744073709551616) ∧ (0 ≤ b3 ∧ b3 < 18446744073709551616)) : awp ty G6 (code Tryz.f6) (retP ty Tryz.f6.results.toList (.many [.v (.string (bs (if okB n (V4 b0 b1 b2 b3) then hexA (dC n (V4 b0 b1 b2 b3)) (dS n (V4 b0 b1 b2 b3)) (dQ n (V4 b0 b1 b2 b3)) (dV n (V4 b0 b1 b2 b3)) (dX n (V4 b0 b1 b2 b3)) else []))), .v (.int .i64 (if okB n (V4 b0 b1 b2 b3) then 0 else 1))])) (entry 0 [.v (.int .i64 n), .v (.agg #[.int .u64 b0, .int .u64 b1, .int .u64 b2, .int .u64 b3])]) [] := by
  unfold code
  simp only [Tryz.f6, Option.getD_some]
  rcases Bool.eq_false_or_eq_true (okB n (V4 b0 b1 b2 b3)) with hO | hO
  case' inr =>
    have e1 : decide ((4 : Int) ≥ 5) = false := rfl
    have e2 : decide ((4 : Int) ≥ 5) = false := rfl
    have e3 : decide ((4 : Int) ≥ 5) = false := rfl
    have e4 : decide ((4 : Int) ≥ 5) = false := rfl
    have e5 : decide ((4 : Int) ≥ 5) = false := rfl
    have hct : decide ((4 : Int) ≥ 5) = false := rfl
    have eL1 : decide ((4 : Int) ≥ 5) = false := rfl
    have eK : decide ((4 : Int) ≥ 5) = false := rfl
    have eS : decide ((4 : Int) ≥ 5) = false := rfl
    have hG : decide ((4 : Int) ≥ 5) = false := rfl
    have t0 : decide ((4 : Int) ≥ 5) = false := rfl
    have hVC : decide ((4 : Int) ≥ 5) = false := rfl
    have hL : decide ((4 : Int) ≥ 5) = false := rfl
    have hR : decide ((4 : Int) ≥ 5) = false := rfl
    have eN : decide ((4 : Int) ≥ 5) = false := rfl
    have hV : decide ((4 : Int) ≥ 5) = false := rfl
    have g1 : decide ((4 : Int) ≥ 5) = false := rfl
    have g2 : decide ((4 : Int) ≥ 5) = false := rfl
    have t4 : decide ((4 : Int) ≥ 5) = false := rfl
    have hV4 : decide ((4 : Int) ≥ 5) = false := rfl
    have hzk : decide ((4 : Int) ≥ 5) = false := rfl
    have hnx : decide ((4 : Int) ≥ 5) = false := rfl
    have hhd : decide ((4 : Int) ≥ 5) = false := rfl
    have hdg : decide ((4 : Int) ≥ 5) = false := rfl
    have hT : decide ((4 : Int) ≥ 5) = false := rfl
    have hb0 : decide ((4 : Int) ≥ 5) = false := rfl
    have h45 : decide ((4 : Int) ≥ 5) = false := rfl
    have m60 : decide ((4 : Int) ≥ 5) = false := rfl
    have hen : decide ((4 : Int) ≥ 5) = false := rfl
    rw [show dC n (V4 b0 b1 b2 b3) = 0 by simp [dC, hO], show dS n (V4 b0 b1 b2 b3) = false by simp [dS, hO], show dQ n (V4 b0 b1 b2 b3) = false by simp [dQ, hO], show dX n (V4 b0 b1 b2 b3) = 0 by simp [dX, hO], show dV n (V4 b0 b1 b2 b3) = 0 by simp [dV, hO]]
  case' inl =>
    have hCl := dV_lt hO
    have hcl := dC_of hO
    have hxl := dX_of hO
    obtain ⟨cl, e1⟩ : ∃ x, dC n (V4 b0 b1 b2 b3) = x := ⟨_, rfl⟩
    obtain ⟨sg, e2⟩ : ∃ x, dS n (V4 b0 b1 b2 b3) = x := ⟨_, rfl⟩
    obtain ⟨si, e3⟩ : ∃ x, dQ n (V4 b0 b1 b2 b3) = x := ⟨_, rfl⟩
    obtain ⟨C, e4⟩ : ∃ x, dV n (V4 b0 b1 b2 b3) = x := ⟨_, rfl⟩
    obtain ⟨ex, e5⟩ : ∃ x, dX n (V4 b0 b1 b2 b3) = x := ⟨_, rfl⟩
    rw [e1] at hcl ⊢
    rw [e2, e3, e4, e5]
    rw [e4] at hCl
    rw [e5] at hxl
    have hVC := V4_w4 hCl
    have hbz := @blen_zero C
    have hbl := bl256 hCl
    obtain ⟨L, hL⟩ : ∃ L, blen C = L := ⟨_, rfl⟩
    rw [hL] at hbz hbl
    obtain ⟨R, hR⟩ : ∃ R, C * 2 ^ (257 - L) % 2 ^ 256 = R := ⟨_, rfl⟩
    have hRl : R < 2 ^ 256 := by rw [← hR]; exact Nat.mod_lt _ (Nat.pow_pos (by decide))
    have eN : (257 - (L : Int)).toNat = 257 - L := by omega
    have hV : val [w4 C 0, w4 C 1, w4 C 2, w4 C 3] = C := hVC
    obtain ⟨x, r, hT, hx⟩ := itoa_head (ex + (L : Int) - 1)
    have hTl := itoaLen (ex + (L : Int) - 1) (by omega) (by omega)
    rw [hT, List.length_cons] at hTl
    have hb0 : bt (bs (x :: r)) 0 = (x.toNat : Int) := by rw [bt_bs]; rfl
    have h45 := x45 hx
    have hen := hex_enc'
    obtain ⟨hdl, hhd⟩ : ∃ l : List UInt8, l = (if sg then [45, 48, 120] else [48, 120]) := ⟨_, rfl⟩
    have hdl3 : hdl.length ≤ 3 := by rw [hhd]; split <;> simp
    obtain ⟨cnt, hcnt⟩ : ∃ c, (L + 2) / 4 = c := ⟨_, rfl⟩
    have hct : ((L : Int) - 1 + 3).tdiv 4 = (cnt : Int) := by rw [Int.tdiv_eq_ediv_of_nonneg (by omega)]; omega
    have eL1 : ((L : Int) - 1).toNat = L - 1 := by omega
    have eS : ∀ i : Nat, (4 * ((cnt : Int) - 1 - (i : Int))).toNat = 4 * (cnt - 1 - i) := fun i => by omega
    obtain ⟨G, hG⟩ : ∃ G, C % 2 ^ (L - 1) * 2 ^ (4 * cnt - (L - 1)) = G := ⟨_, rfl⟩
    have t0 : (0 : Int).toNat = 0 := rfl
    have hGd := fun h => hexG_dig (C := C) ⟨h, hbl⟩ hcnt hR hG
    have hcase : (cl = 2 ∨ cl = 3) ∨ (cl = 1 ∧ C = 0 ∧ sg = true) ∨ (cl = 1 ∧ C = 0 ∧ sg = false) ∨ (cl = 1 ∧ C ≠ 0 ∧ sg = true) ∨ (cl = 1 ∧ C ≠ 0 ∧ sg = false) := by
      cases sg <;> simp only [reduceCtorEq, and_true, and_false, false_or, or_false] <;> omega
    rcases hcase with h1 | ⟨h1, h2, rfl⟩ | ⟨h1, h2, rfl⟩ | ⟨h1, h2, rfl⟩ | ⟨h1, h2, rfl⟩
    all_goals first
      | (have g1 : (cl == 1) = true := by rw [beq_iff_eq]; omega)
      | (have g1 : (cl == 1) = false := by rw [beq_eq_false_iff_ne]; omega)
    all_goals first
      | (have g2 : ((L : Int) == 0) = true := by rw [beq_iff_eq]; omega)
      | (have g2 : ((L : Int) == 0) = false := by rw [beq_eq_false_iff_ne]; omega)
      | (have g2 : decide ((4 : Int) ≥ 5) = false := rfl)
    all_goals first
      | (have eK : (4 * (cnt : Int) - ((L : Int) - 1)).toNat = 4 * cnt - (L - 1) := by omega)
      | (have eK : decide ((4 : Int) ≥ 5) = false := rfl)
  all_goals repeat' (first
    | ((first
       | (with_reducible refine ops_k ?_; intro X hX)
       | (with_reducible refine opsN_k ?_; intro X hX)
       | (with_reducible show awp _ _ _ _ (keepL _ _) _)
       | with_reducible refine awp_cond_k ?_
       | (with_reducible refine Brk_i ?_ ?_ <;> intro hb <;> (try simp only [hb]) <;> have hq := hb <;> try simp only [decide_eq_true_eq, decide_eq_false_iff_not, gt_iff_lt, ge_iff_le, Int.not_lt, Int.not_le, beq_iff_eq, beq_eq_false_iff_ne, Bool.not_eq_true', Bool.not_eq_false', Bool.and_eq_true, Bool.or_eq_true, Bool.and_eq_false_imp, Bool.or_eq_false_iff, ne_eq, Classical.not_not] at hq)
       | with_reducible refine retP_ret_i ?_
       | with_reducible refine retP_normal_i ?_
       | (with_reducible (show bindG _ _ _ _ _); simp only [hall])) <;> try simp only [Go.AM.S1, Go.AM.S2, Go.AM.S3, Go.AM.S4, Go.AM.S5, Go.AM.S6, Go.AM.S7, Go.AM.S8, Go.AM.S9, Nat.reduceAdd, Nat.reduceMul, Nat.reduceSub, ↓reduceIte, Nat.reduceEqDiff, Nat.reduceLT, Nat.reduceLeDiff, reduceCtorEq, Int.reduceBEq, Int.reduceBNe, Nat.reduceBEq, Int.reduceEq, Int.reduceToNat, Int.reduceLE, Int.reduceLT, Nat.reduceDiv, Int.reduceAdd, Int.reduceSub, Int.reduceMul, Int.reduceNeg, Int.reduceGT, Int.reduceGE, Nat.reduceMod, k6_11, sItoa_eq, k6_12, s12_eq, k6_13, s13_eq, k6_14, s14_eq, s14_nil1, k6_15, s15_eq, k6_16, s16_eq, s16_nil1, k6_17, s17_eq, s17_nil1, k6_18, s18_eq, s18_nil1, ty_3, ty_4, ty_5, ty_9, ty_22, ty_24, ty_26, ty_31, ty_40, hO, e1, e2, e3, e4, e5, hVC, hL, eN, hV, g1, g2, hT, hb0, hen, hexU_len, IntKind.bits, List.length_cons, toInts, hct, eL1, eK, eS, hG, t0, val_limbs, Nat.pow_zero, Nat.div_one, bs_lit, bs_app, bs_size, bs_beq, bs_list, List.length_append, List.append_nil, List.nil_append, List.cons_append])
    | (with_reducible refine hX _ _ ?_; clear hX X)
    | (with_reducible refine ops_nil_i ?_; try clear hall all)
    | (with_reducible refine opsN_nil_i ?_; try clear hall all)
    | (with_reducible refine hK _ _ ?_; clear hK K)
    | with_reducible refine thenP_normal_i ?_
    | (with_reducible refine zzr30 _ _ ?_; try clear zzr30 Kzzr30)
    | (with_reducible refine zzsr28 _ _ ?_; try clear zzsr28 Kzzsr28)
    | (with_reducible refine zzr29 _ _ ?_; try clear zzr29 Kzzr29)
    | (with_reducible refine zzr28 _ _ ?_; try clear zzr28 Kzzr28)
    | (with_reducible refine zzr27 _ _ ?_; try clear zzr27 Kzzr27)
    | (with_reducible refine zzsr25 _ _ ?_; try clear zzsr25 Kzzsr25)
    | (with_reducible refine zzr25 _ _ ?_; try clear zzr25 Kzzr25)
    | (with_reducible refine zzr24 _ _ ?_; try clear zzr24 Kzzr24)
    | (with_reducible refine zzb2 _ _ ?_; try clear zzb2 Kzzb2)
    | (with_reducible refine zzsr22 _ _ ?_; try clear zzsr22 Kzzsr22)
    | (with_reducible refine zzr22 _ _ ?_; try clear zzr22 Kzzr22)
    | (with_reducible refine zzsr16 _ _ ?_; try clear zzsr16 Kzzsr16)
    | (with_reducible refine zzb1 _ _ ?_; try clear zzb1 Kzzb1)
    | (with_reducible refine zzr19 _ _ ?_; try clear zzr19 Kzzr19)
    | (with_reducible refine zzr18 _ _ ?_; try clear zzr18 Kzzr18)
    | (with_reducible refine zzctmp58 _ _ ?_; try clear zzctmp58 Kzzctmp58)
    | (with_reducible refine zzr17 _ _ ?_; try clear zzr17 Kzzr17)
    | (with_reducible refine zzr16 _ _ ?_; try clear zzr16 Kzzr16)
    | (with_reducible refine zzr15 _ _ ?_; try clear zzr15 Kzzr15)
    | (with_reducible refine zzr14 _ _ ?_; try clear zzr14 Kzzr14)
    | (with_reducible refine zzr13 _ _ ?_; try clear zzr13 Kzzr13)
    | (with_reducible refine zzr12 _ _ ?_; try clear zzr12 Kzzr12)
    | (with_reducible refine zzsr10 _ _ ?_; try clear zzsr10 Kzzsr10)
    | (with_reducible refine zzr11 _ _ ?_; try clear zzr11 Kzzr11)
    | (with_reducible refine zzr10 _ _ ?_; try clear zzr10 Kzzr10)
    | (with_reducible refine zzr9 _ _ ?_; try clear zzr9 Kzzr9)
    | (with_reducible refine zzsr7 _ _ ?_; try clear zzsr7 Kzzsr7)
    | (with_reducible refine zzr7 _ _ ?_; try clear zzr7 Kzzr7)
    | (with_reducible refine zzr6 _ _ ?_; try clear zzr6 Kzzr6)
    | (with_reducible refine zzsr4 _ _ ?_; try clear zzsr4 Kzzsr4)
    | (with_reducible refine zzr5 _ _ ?_; try clear zzr5 Kzzr5)
    | (with_reducible refine zzr4 _ _ ?_; try clear zzr4 Kzzr4)
    | (with_reducible refine zzsr2 _ _ ?_; try clear zzsr2 Kzzsr2)
    | (with_reducible refine zzr3 _ _ ?_; try clear zzr3 Kzzr3)
    | (with_reducible refine zzr2 _ _ ?_; try clear zzr2 Kzzr2)
    | (with_reducible refine zzr1 _ _ ?_; try clear zzr1 Kzzr1)
    | (with_reducible refine zzr0 _ _ ?_; try clear zzr0 Kzzr0)
    | (with_reducible refine awp_lp (c := .seq (.region 17 _ _) _) (σ := Nat) (fun i => i ≤ cnt) (fun i => [(6, .ref 96 0), (8, .v (.string (bs hdl))), (9, .v (.int .i64 L)), (10, .rd .u64 (limbs G)), (11, .v (.int .i64 cnt)), (12, .v (.string (bs (hexU R i)))), (56, .v (.int .i64 cnt)), (57, .v (.int .i64 i))]) (fun i => [(96, .vals [.int .i64 cl, .bool (hdl.length == 3), .bool si, .int .i64 ex, .int .u64 (w4 C 0), .int .u64 (w4 C 1), .int .u64 (w4 C 2), .int .u64 (w4 C 3)], false)]) (fun i => cnt - i) 0 ?_ ?_ (fun i hi => ?_))
    | (with_reducible refine awp_lp (c := .seq (.seq (.region 22 _ _) _) _) (σ := Nat) (fun j => j ≤ cnt ∧ R * 16 ^ j % 2 ^ 256 = 0) (fun j => [(6, .ref 96 0), (8, .v (.string (bs hdl))), (9, .v (.int .i64 L)), (12, .v (.string (bs (hexU R j))))]) (fun j => [(96, .vals [.int .i64 cl, .bool (hdl.length == 3), .bool si, .int .i64 ex, .int .u64 (w4 C 0), .int .u64 (w4 C 1), .int .u64 (w4 C 2), .int .u64 (w4 C 3)], false)]) (fun j => j) cnt ?_ ?_ (fun j hj => ?_))
    | (with_reducible refine awp_seq_l (a := .region 30 _ _) [4, 5] ?_; intro Kzzr30 zzr30)
    | (with_reducible refine awp_seq_l (a := .seq (.region 28 _ _) _) [8, 16] ?_; intro Kzzsr28 zzsr28)
    | (with_reducible refine awp_seq_l (a := .region 29 _ _) [4, 5] ?_; intro Kzzr29 zzr29)
    | (with_reducible refine awp_seq_l (a := .region 28 _ _) [8, 16, 107] ?_; intro Kzzr28 zzr28)
    | (with_reducible refine awp_seq_l (a := .region 27 _ _) [8, 16] ?_; intro Kzzr27 zzr27)
    | (with_reducible refine awp_seq_l (a := .seq (.region 25 _ _) _) [6, 8, 9] ?_; intro Kzzsr25 zzsr25)
    | (with_reducible refine awp_seq_l (a := .region 25 _ _) [6, 8, 9, 12, 96] ?_; intro Kzzr25 zzr25)
    | (with_reducible refine awp_seq_l (a := .region 24 _ _) [6, 8, 9, 12] ?_; intro Kzzr24 zzr24)
    | (with_reducible refine awp_seq_l (a := .block 2 _) [6, 8, 9, 12] ?_; intro Kzzb2 zzb2)
    | (with_reducible refine awp_seq_l (a := .seq (.region 22 _ _) _) [6, 8, 9, 12] ?_; intro Kzzsr22 zzsr22)
    | (with_reducible refine awp_seq_l (a := .region 22 _ _) [6, 8, 9, 12, 87] ?_; intro Kzzr22 zzr22)
    | (with_reducible refine awp_seq_l (a := .seq (.region 16 _ _) _) [6, 8, 9, 12] ?_; intro Kzzsr16 zzsr16)
    | (with_reducible refine awp_seq_l (a := .block 1 _) [6, 8, 9, 10, 11, 12, 56, 57] ?_; intro Kzzb1 zzb1)
    | (with_reducible refine awp_seq_l (a := .region 19 _ _) [6, 8, 9, 10, 11, 12, 14, 56, 57] ?_; intro Kzzr19 zzr19)
    | (with_reducible refine awp_seq_l (a := .region 18 _ _) [6, 8, 9, 10, 11, 12, 13, 56, 57] ?_; intro Kzzr18 zzr18)
    | (with_reducible refine awp_seq_l (a := .cond (.tmp 58) _ _) [6, 8, 9, 10, 11, 12, 56, 57] ?_; intro Kzzctmp58 zzctmp58)
    | (with_reducible refine awp_seq_l (a := .region 17 _ _) [6, 8, 9, 10, 11, 12, 56, 57, 58] ?_; intro Kzzr17 zzr17)
    | (with_reducible refine awp_seq_l (a := .region 16 _ _) [6, 8, 9, 10, 11, 12, 56, 57] ?_; intro Kzzr16 zzr16)
    | (with_reducible refine awp_seq_l (a := .region 15 _ _) [6, 8, 9, 10, 11, 12] ?_; intro Kzzr15 zzr15)
    | (with_reducible refine awp_seq_l (a := .region 14 _ _) [6, 8, 9, 10, 11] ?_; intro Kzzr14 zzr14)
    | (with_reducible refine awp_seq_l (a := .region 13 _ _) [6, 8, 9, 10, 11] ?_; intro Kzzr13 zzr13)
    | (with_reducible refine awp_seq_l (a := .region 12 _ _) [6, 8, 9, 10] ?_; intro Kzzr12 zzr12)
    | (with_reducible refine awp_seq_l (a := .seq (.region 10 _ _) _) [6, 8, 9] ?_; intro Kzzsr10 zzsr10)
    | (with_reducible refine awp_seq_l (a := .region 11 _ _) [4, 5] ?_; intro Kzzr11 zzr11)
    | (with_reducible refine awp_seq_l (a := .region 10 _ _) [6, 8, 9, 37] ?_; intro Kzzr10 zzr10)
    | (with_reducible refine awp_seq_l (a := .region 9 _ _) [6, 8, 9] ?_; intro Kzzr9 zzr9)
    | (with_reducible refine awp_seq_l (a := .seq (.region 7 _ _) _) [6, 8] ?_; intro Kzzsr7 zzsr7)
    | (with_reducible refine awp_seq_l (a := .region 7 _ _) [6, 8, 32] ?_; intro Kzzr7 zzr7)
    | (with_reducible refine awp_seq_l (a := .region 6 _ _) [6, 8] ?_; intro Kzzr6 zzr6)
    | (with_reducible refine awp_seq_l (a := .seq (.region 4 _ _) _) [6] ?_; intro Kzzsr4 zzsr4)
    | (with_reducible refine awp_seq_l (a := .region 5 _ _) [4, 5] ?_; intro Kzzr5 zzr5)
    | (with_reducible refine awp_seq_l (a := .region 4 _ _) [6, 28] ?_; intro Kzzr4 zzr4)
    | (with_reducible refine awp_seq_l (a := .seq (.region 2 _ _) _) [6] ?_; intro Kzzsr2 zzsr2)
    | (with_reducible refine awp_seq_l (a := .region 3 _ _) [4, 5] ?_; intro Kzzr3 zzr3)
    | (with_reducible refine awp_seq_l (a := .region 2 _ _) [6, 7, 24] ?_; intro Kzzr2 zzr2)
    | (with_reducible refine awp_seq_l (a := .region 1 _ _) [6, 7] ?_; intro Kzzr1 zzr1)
    | (with_reducible refine awp_seq_l (a := .region 0 _ _) [0, 3] ?_; intro Kzzr0 zzr0)
    | (with_reducible refine awp_seq_k ?_; intro K hK)
    | (with_reducible refine awp_region_a ?_; intro all hall K hK)
    | (with_reducible refine awp_draw_n ?_ ?_; kernel_rfl; intro all hall K hK)
    | (with_reducible refine Chk_i ?_ ?_)
    | (with_reducible refine keysC_i ?_; kernel_rfl)
    | (with_reducible first | refine awp_block_i ?_ | refine awp_skip_i ?_ | refine awp_ret_i ?_ | refine awp_exit_i ?_ | refine thenP_ret_i ?_ | refine thenP_exit_i ?_ | refine lpP_ret_i ?_ | refine lpP_exit_i ?_ | refine unrP_succ_i ?_ | refine unrP_ret_i ?_ | refine unrP_exit_i ?_ | refine blockP_normal_i ?_ | refine blockP_ret_i ?_)
    | (with_reducible refine blockP_exit_i ?_; simp only [↓reduceIte, Nat.reduceEqDiff])
    | with_reducible refine lpP_normal_i ?_)
  all_goals (try clear zzr0; try clear Kzzr0)
  all_goals (try clear zzr1; try clear Kzzr1)
  all_goals (try clear zzr2; try clear Kzzr2)
  all_goals (try clear zzr3; try clear Kzzr3)
  all_goals (try clear zzsr2; try clear Kzzsr2)
  all_goals (try clear zzr4; try clear Kzzr4)
  all_goals (try clear zzr5; try clear Kzzr5)
  all_goals (try clear zzsr4; try clear Kzzsr4)
  all_goals (try clear zzr6; try clear Kzzr6)
  all_goals (try clear zzr7; try clear Kzzr7)
  all_goals (try clear zzsr7; try clear Kzzsr7)
  all_goals (try clear zzr9; try clear Kzzr9)
  all_goals (try clear zzr10; try clear Kzzr10)
  all_goals (try clear zzr11; try clear Kzzr11)
  all_goals (try clear zzsr10; try clear Kzzsr10)
  all_goals (try clear zzr12; try clear Kzzr12)
  all_goals (try clear zzr13; try clear Kzzr13)
  all_goals (try clear zzr14; try clear Kzzr14)
  all_goals (try clear zzr15; try clear Kzzr15)
  all_goals (try clear zzr16; try clear Kzzr16)
  all_goals (try clear zzr17; try clear Kzzr17)
  all_goals (try clear zzctmp58; try clear Kzzctmp58)
  all_goals (try clear zzr18; try clear Kzzr18)
  all_goals (try clear zzr19; try clear Kzzr19)
  all_goals (try clear zzb1; try clear Kzzb1)
  all_goals (try clear zzsr16; try clear Kzzsr16)
  all_goals (try clear zzr22; try clear Kzzr22)
  all_goals (try clear zzsr22; try clear Kzzsr22)
  all_goals (try clear zzb2; try clear Kzzb2)
  all_goals (try clear zzr24; try clear Kzzr24)
  all_goals (try clear zzr25; try clear Kzzr25)
  all_goals (try clear zzsr25; try clear Kzzsr25)
  all_goals (try clear zzr27; try clear Kzzr27)
  all_goals (try clear zzr28; try clear Kzzr28)
  all_goals (try clear zzr29; try clear Kzzr29)
  all_goals (try clear zzsr28; try clear Kzzsr28)
  all_goals (try clear zzr30; try clear Kzzr30)
  all_goals (try simp only [inR])
  all_goals first
    | omega
    | exact hp
    | exact ⟨w4_lim _ _, w4_lim _ _, w4_lim _ _, w4_lim _ _⟩
    | exact lim4 (w4_lim _ _) (w4_lim _ _) (w4_lim _ _) (w4_lim _ _)
    | exact ⟨⟨w4_lim _ _, w4_lim _ _, w4_lim _ _, w4_lim _ _⟩, by omega, by omega⟩
    | exact ⟨h1, w4_lim _ _, w4_lim _ _, w4_lim _ _, w4_lim _ _⟩
    | exact ⟨by omega, by omega⟩
    | (unfold hexA; rw [if_neg (by omega)]; done)
    | (unfold hexA hexT; rw [if_pos h1, if_pos h2]; rfl)
    | exact ⟨⟨lim_limbs _, Nat.le_trans (len4 (Nat.lt_of_le_of_lt (Nat.mod_le _ _) hCl)) (by omega)⟩, by omega, by omega⟩
    | exact ⟨⟨lim_limbs _, Nat.le_trans (len4 (hGd (by omega)).2.2) (by omega)⟩, by omega, by omega⟩
    | exact ⟨lim_limbs _, Nat.le_trans (len4 (Nat.lt_of_le_of_lt (Nat.div_le_self _ _) (hGd (by omega)).2.2)) (by omega)⟩
    | exact ⟨Nat.le_refl _, (hGd (by omega)).2.1⟩
    | (subst hhd; refine ent_ok [(96, 96)] rfl ?_ ?_ <;> simp [memLe, slotsLe, AvLe, lk, Ct.len, hexU, toInts]; done)
    | (rw [show i = cnt by omega]; exact Ent.refl _ _)
    | (rw [(hGd (by omega)).1 i (by assumption)]
       exact ⟨i + 1, (by refine ent_ok [(96, 96)] rfl ?_ ?_ <;> simp [memLe, slotsLe, AvLe, lk, Ct.len, hexU, toInts]), by omega, by omega⟩)
    | (have h0 : 0 < j := by omega
       rw [hexU_last h0] at hq
       rw [hexU_cut h0]
       exact ⟨j - 1, (by refine ent_ok [(96, 96)] rfl ?_ ?_ <;> simp [memLe, slotsLe, AvLe, lk, Ct.len, hexU, toInts]), ⟨by omega, hex_trim2 h0 hj.2 (hexc_yes hq)⟩, by omega⟩)
    | (first
         | (have hJ := hexJ_of hj.2 (.inl (by omega)))
         | (have hJ := hexJ_of hj.2 (.inr ⟨by assumption, by assumption⟩))
       unfold hexA
       rw [if_pos h1, hexT_eq h2 hL hR hJ hhd, hT]
       first
         | rw [if_neg (by assumption : ¬ hexU R j = [])]
         | rw [if_pos (by assumption : hexU R j = [])]
       first
         | rw [if_pos (by omega : 0 ≤ ex + (L : Int) - 1)]
         | rw [if_neg (by omega : ¬ 0 ≤ ex + (L : Int) - 1)]
       simp)
    | skip
theorem sound_6 : Sound Tryz.prog 6 .body (norm s6) := by
  refine sound_norm (sound_body Tryz.func6 (show Tryz.f6.body = some (code Tryz.f6) from rfl) (by kernel_rfl) tysOk G6_ok (drawOk_ok (by kernel_rfl) tysOk G6_ok) (by kernel_rfl) fun ds p r hs hp => ?_)
  unfold s6 at hs
  split at hs
  · cases hs; exact ⟨Nat.le_of_ble_eq_true (by kernel_rfl), wk6 _ _ _ _ _ hp⟩
  · cases hs
end Go.Proofs.AMT
set_option maxRecDepth 20000
namespace Go.Proofs.AMT
open Go.AM Go.AM.LN
attribute [local congr] bindO_congr bindS_congr bindG_congr awpOps_congr aOne_congr awp_congr aCond_congr awpD_congr dOne_congr keysB_congr nOne_congr thenP_congr blockP_congr Chk_congr Brk_congr
noncomputable def s3 : CSpec := fun ds => match ds with
  | [.v (.int .i64 n), .v (.agg ⟨[.int .u64 b0, .int .u64 b1, .int .u64 b2, .int .u64 b3]⟩)] => some ((0 ≤ b0 ∧ b0 < 18446744073709551616) ∧ (0 ≤ b1 ∧ b1 < 18446744073709551616) ∧ (0 ≤ b2 ∧ b2 < 18446744073709551616) ∧ (0 ≤ b3 ∧ b3 < 18446744073709551616), .one (.v (.bool true)))
  | _ => none
theorem s3_eq (n : Int) (b0 b1 b2 b3 : Int) : norm s3 [.v (.int .i64 n), .v (.agg #[.int .u64 b0, .int .u64 b1, .int .u64 b2, .int .u64 b3])] = some ((0 ≤ b0 ∧ b0 < 18446744073709551616) ∧ (0 ≤ b1 ∧ b1 < 18446744073709551616) ∧ (0 ≤ b2 ∧ b2 < 18446744073709551616) ∧ (0 ≤ b3 ∧ b3 < 18446744073709551616), .one (.v (.bool true))) := rfl
noncomputable def G3 : Gam := [(4, .body, norm s4), (5, .body, norm s5), (6, .body, norm s6)]
theorem G3_ok : GamOk Tryz.prog G3 := gamOk_cons sound_4 (gamOk_cons sound_5 (gamOk_cons sound_6 gamOk_nil))
theorem k3_4 : lk G3 4 = some (.body, norm s4) := rfl
theorem k3_5 : lk G3 5 = some (.body, norm s5) := rfl
theorem k3_6 : lk G3 6 = some (.body, norm s6) := rfl
set_option maxHeartbeats 20000000 in
theorem wk3 (n : Int) (b0 b1 b2 b3 : Int) (hp : (0 ≤ b0 ∧ b0 < 18446744073709551616) ∧ (0 ≤ b1 ∧ b1 < 18446744073709551616) ∧ (0 ≤ b2 ∧ b2 < 18446744073709551616) ∧ (0 ≤ b3 ∧ b3 < 18446744073709551616)) : awp ty G3 (code Tryz.f3) (retP ty Tryz.f3.results.toList (.one (.v (.bool true)))) (entry 0 [.v (.int .i64 n), .v (.agg #[.int .u64 b0, .int .u64 b1, .int .u64 b2, .int .u64 b3])]) [] := by
  unfold code
  simp only [Tryz.f3, Option.getD_some]
  obtain ⟨l, hl⟩ : ∃ l, (if okB n (V4 b0 b1 b2 b3) then hexA (dC n (V4 b0 b1 b2 b3)) (dS n (V4 b0 b1 b2 b3)) (dQ n (V4 b0 b1 b2 b3)) (dV n (V4 b0 b1 b2 b3)) (dX n (V4 b0 b1 b2 b3)) else []) = l := ⟨_, rfl⟩
  obtain ⟨e, he⟩ : ∃ e : Int, (if okB n (V4 b0 b1 b2 b3) then 0 else 1) = e := ⟨_, rfl⟩
  all_goals repeat' (first
    | ((first
       | (with_reducible refine ops_k ?_; intro X hX)
       | (with_reducible refine opsN_k ?_; intro X hX)
       | (with_reducible show awp _ _ _ _ (keepL _ _) _)
       | with_reducible refine awp_cond_k ?_
       | (with_reducible refine Brk_i ?_ ?_ <;> intro hb <;> (try simp only [hb]) <;> have hq := hb <;> try simp only [decide_eq_true_eq, decide_eq_false_iff_not, gt_iff_lt, ge_iff_le, Int.not_lt, Int.not_le, beq_iff_eq, beq_eq_false_iff_ne, Bool.not_eq_true', Bool.not_eq_false', Bool.and_eq_true, Bool.or_eq_true, Bool.and_eq_false_imp, Bool.or_eq_false_iff, ne_eq, Classical.not_not] at hq)
       | with_reducible refine retP_ret_i ?_
       | with_reducible refine retP_normal_i ?_
       | (with_reducible (show bindG _ _ _ _ _); simp only [hall])) <;> try simp only [Go.AM.S1, Go.AM.S2, Go.AM.S3, Go.AM.S4, Go.AM.S5, Go.AM.S6, Go.AM.S7, Go.AM.S8, Go.AM.S9, Nat.reduceAdd, Nat.reduceMul, Nat.reduceSub, ↓reduceIte, Nat.reduceEqDiff, Nat.reduceLT, Nat.reduceLeDiff, reduceCtorEq, Int.reduceBEq, Int.reduceBNe, Nat.reduceBEq, Int.reduceEq, Int.reduceToNat, Int.reduceLE, Int.reduceLT, Nat.reduceDiv, Int.reduceAdd, Int.reduceSub, Int.reduceMul, Int.reduceNeg, Int.reduceGT, Int.reduceGE, Nat.reduceMod, k3_4, s4_eq, k3_5, s5_eq, k3_6, s6_eq, ty_3, ty_4, ty_9, ty_22, ty_24, ty_26, hl, he, beq_self_eq_true, bs_lit, bs_app, bs_size, bs_beq, bs_list, List.length_append, List.append_nil, List.nil_append, List.cons_append])
    | (with_reducible refine hX _ _ ?_; clear hX X)
    | (with_reducible refine ops_nil_i ?_; try clear hall all)
    | (with_reducible refine opsN_nil_i ?_; try clear hall all)
    | (with_reducible refine hK _ _ ?_; clear hK K)
    | with_reducible refine thenP_normal_i ?_
    | (with_reducible refine zzr5 _ _ ?_; try clear zzr5 Kzzr5)
    | (with_reducible refine zzr4 _ _ ?_; try clear zzr4 Kzzr4)
    | (with_reducible refine zzr3 _ _ ?_; try clear zzr3 Kzzr3)
    | (with_reducible refine zzsr1 _ _ ?_; try clear zzsr1 Kzzsr1)
    | (with_reducible refine zzr2 _ _ ?_; try clear zzr2 Kzzr2)
    | (with_reducible refine zzr1 _ _ ?_; try clear zzr1 Kzzr1)
    | (with_reducible refine zzr0 _ _ ?_; try clear zzr0 Kzzr0)
    | (with_reducible refine awp_seq_l (a := .region 5 _ _) [4] ?_; intro Kzzr5 zzr5)
    | (with_reducible refine awp_seq_l (a := .region 4 _ _) [5, 6, 7, 8] ?_; intro Kzzr4 zzr4)
    | (with_reducible refine awp_seq_l (a := .region 3 _ _) [0, 3, 5, 6] ?_; intro Kzzr3 zzr3)
    | (with_reducible refine awp_seq_l (a := .seq (.region 1 _ _) _) [0, 3] ?_; intro Kzzsr1 zzsr1)
    | (with_reducible refine awp_seq_l (a := .region 2 _ _) [4] ?_; intro Kzzr2 zzr2)
    | (with_reducible refine awp_seq_l (a := .region 1 _ _) [0, 3, 10] ?_; intro Kzzr1 zzr1)
    | (with_reducible refine awp_seq_l (a := .region 0 _ _) [0, 3] ?_; intro Kzzr0 zzr0)
    | (with_reducible refine awp_seq_k ?_; intro K hK)
    | (with_reducible refine awp_region_a ?_; intro all hall K hK)
    | (with_reducible refine awp_draw_n ?_ ?_; kernel_rfl; intro all hall K hK)
    | (with_reducible refine Chk_i ?_ ?_)
    | (with_reducible refine keysC_i ?_; kernel_rfl)
    | (with_reducible first | refine awp_block_i ?_ | refine awp_skip_i ?_ | refine awp_ret_i ?_ | refine awp_exit_i ?_ | refine thenP_ret_i ?_ | refine thenP_exit_i ?_ | refine lpP_ret_i ?_ | refine lpP_exit_i ?_ | refine unrP_succ_i ?_ | refine unrP_ret_i ?_ | refine unrP_exit_i ?_ | refine blockP_normal_i ?_ | refine blockP_ret_i ?_)
    | (with_reducible refine blockP_exit_i ?_; simp only [↓reduceIte, Nat.reduceEqDiff])
    | with_reducible refine lpP_normal_i ?_)
  all_goals (try clear zzr0; try clear Kzzr0)
  all_goals (try clear zzr1; try clear Kzzr1)
  all_goals (try clear zzr2; try clear Kzzr2)
  all_goals (try clear zzsr1; try clear Kzzsr1)
  all_goals (try clear zzr3; try clear Kzzr3)
  all_goals (try clear zzr4; try clear Kzzr4)
  all_goals (try clear zzr5; try clear Kzzr5)
  all_goals (try simp only [inR])
  all_goals first
    | omega
    | exact hp
    | skip
theorem sound_3 : Sound Tryz.prog 3 .body (norm s3) := by
  refine sound_norm (sound_body Tryz.func3 (show Tryz.f3.body = some (code Tryz.f3) from rfl) (by kernel_rfl) tysOk G3_ok (drawOk_ok (by kernel_rfl) tysOk G3_ok) (by kernel_rfl) fun ds p r hs hp => ?_)
  unfold s3 at hs
  split at hs
  · cases hs; exact ⟨Nat.le_of_ble_eq_true (by kernel_rfl), wk3 _ _ _ _ _ hp⟩
  · cases hs
end Go.Proofs.AMT
