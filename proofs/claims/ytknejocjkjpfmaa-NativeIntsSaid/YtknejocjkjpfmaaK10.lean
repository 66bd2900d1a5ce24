/- Part 10 of the proof: own text (Fcaliperref05Lay, Fcaliperref02Right, Fcaliperref02Less, Fcaliperref05Field, Fcaliperref05Pack, Fcaliperref02Times, Fcaliperref02Pow, Fcaliperref06power, Fcaliperref06Scale, Fcaliperref02Cmp, Fcaliperref06exponent, Fcaliperref02Of). -/
import Derived.Test.YtknejocjkjpfmaaK0
import Derived.Test.YtknejocjkjpfmaaK1
import Derived.Test.YtknejocjkjpfmaaK2
import Derived.Test.YtknejocjkjpfmaaK3
import Derived.Test.YtknejocjkjpfmaaK4
import Derived.Test.YtknejocjkjpfmaaK5
import Derived.Test.YtknejocjkjpfmaaK6
import Derived.Test.YtknejocjkjpfmaaK7
import Derived.Test.YtknejocjkjpfmaaK8
import Derived.Test.YtknejocjkjpfmaaK9
set_option linter.all false
set_option maxRecDepth 20000
namespace Go.Proofs.AMT
open Go.AM Go.AM.LN
attribute [local congr] bindO_congr bindS_congr bindG_congr awpOps_congr aOne_congr awp_congr aCond_congr awpD_congr dOne_congr keysB_congr nOne_congr thenP_congr blockP_congr Chk_congr Brk_congr
noncomputable def s80 : CSpec := fun ds => match ds with
  | [.v (.agg ⟨[.int .u64 b0, .int .u64 b1, .int .u64 b2, .int .u64 b3]⟩), .sl .u64 a, .v (.int .i64 p)] => some (((0 ≤ b0 ∧ b0 < 18446744073709551616) ∧ (0 ≤ b1 ∧ b1 < 18446744073709551616) ∧ (0 ≤ b2 ∧ b2 < 18446744073709551616) ∧ (0 ≤ b3 ∧ b3 < 18446744073709551616)) ∧ (lim a ∧ a.length ≤ 1000) ∧ 0 ≤ p ∧ p ≤ 100000, .one (.v (.agg #[.int .u64 (w4 ((V4 b0 b1 b2 b3) + val a * 2 ^ p.toNat) 0), .int .u64 (w4 ((V4 b0 b1 b2 b3) + val a * 2 ^ p.toNat) 1), .int .u64 (w4 ((V4 b0 b1 b2 b3) + val a * 2 ^ p.toNat) 2), .int .u64 (w4 ((V4 b0 b1 b2 b3) + val a * 2 ^ p.toNat) 3)])))
  | _ => none
theorem s80_eq (b0 b1 b2 b3 : Int) (a : List Int) (p : Int) : norm s80 [.v (.agg #[.int .u64 b0, .int .u64 b1, .int .u64 b2, .int .u64 b3]), .sl .u64 a, .v (.int .i64 p)] = some (((0 ≤ b0 ∧ b0 < 18446744073709551616) ∧ (0 ≤ b1 ∧ b1 < 18446744073709551616) ∧ (0 ≤ b2 ∧ b2 < 18446744073709551616) ∧ (0 ≤ b3 ∧ b3 < 18446744073709551616)) ∧ (lim a ∧ a.length ≤ 1000) ∧ 0 ≤ p ∧ p ≤ 100000, .one (.v (.agg #[.int .u64 (w4 ((V4 b0 b1 b2 b3) + val a * 2 ^ p.toNat) 0), .int .u64 (w4 ((V4 b0 b1 b2 b3) + val a * 2 ^ p.toNat) 1), .int .u64 (w4 ((V4 b0 b1 b2 b3) + val a * 2 ^ p.toNat) 2), .int .u64 (w4 ((V4 b0 b1 b2 b3) + val a * 2 ^ p.toNat) 3)]))) := rfl
theorem s80_nil1 (b0 b1 b2 b3 : Int)  (p : Int) : norm s80 [.v (.agg #[.int .u64 b0, .int .u64 b1, .int .u64 b2, .int .u64 b3]), .v (.slice none 0 0), .v (.int .i64 p)] = some (((0 ≤ b0 ∧ b0 < 18446744073709551616) ∧ (0 ≤ b1 ∧ b1 < 18446744073709551616) ∧ (0 ≤ b2 ∧ b2 < 18446744073709551616) ∧ (0 ≤ b3 ∧ b3 < 18446744073709551616)) ∧ (lim ([] : List Int) ∧ ([] : List Int).length ≤ 1000) ∧ 0 ≤ p ∧ p ≤ 100000, .one (.v (.agg #[.int .u64 (w4 ((V4 b0 b1 b2 b3) + val ([] : List Int) * 2 ^ p.toNat) 0), .int .u64 (w4 ((V4 b0 b1 b2 b3) + val ([] : List Int) * 2 ^ p.toNat) 1), .int .u64 (w4 ((V4 b0 b1 b2 b3) + val ([] : List Int) * 2 ^ p.toNat) 2), .int .u64 (w4 ((V4 b0 b1 b2 b3) + val ([] : List Int) * 2 ^ p.toNat) 3)]))) := rfl
noncomputable def G80 : Gam := [(60, .body, norm s60), (86, .body, norm s86), (88, .body, norm s88)]
theorem G80_ok : GamOk Try.prog G80 := gamOk_cons sound_60 (gamOk_cons sound_86 (gamOk_cons sound_88 gamOk_nil))
theorem k80_60 : lk G80 60 = some (.body, norm s60) := rfl
theorem k80_86 : lk G80 86 = some (.body, norm s86) := rfl
theorem k80_88 : lk G80 88 = some (.body, norm s88) := rfl
set_option maxHeartbeats 20000000 in
theorem w80 (b0 b1 b2 b3 : Int) (a : List Int) (p : Int) (hp : ((0 ≤ b0 ∧ b0 < 18446744073709551616) ∧ (0 ≤ b1 ∧ b1 < 18446744073709551616) ∧ (0 ≤ b2 ∧ b2 < 18446744073709551616) ∧ (0 ≤ b3 ∧ b3 < 18446744073709551616)) ∧ (lim a ∧ a.length ≤ 1000) ∧ 0 ≤ p ∧ p ≤ 100000) : awp ty G80 (code Try.f80) (retP ty Try.f80.results.toList (.one (.v (.agg #[.int .u64 (w4 ((V4 b0 b1 b2 b3) + val a * 2 ^ p.toNat) 0), .int .u64 (w4 ((V4 b0 b1 b2 b3) + val a * 2 ^ p.toNat) 1), .int .u64 (w4 ((V4 b0 b1 b2 b3) + val a * 2 ^ p.toNat) 2), .int .u64 (w4 ((V4 b0 b1 b2 b3) + val a * 2 ^ p.toNat) 3)])))) (entry 0 [.v (.agg #[.int .u64 b0, .int .u64 b1, .int .u64 b2, .int .u64 b3]), .sl .u64 a, .v (.int .i64 p)]) [] := by
  unfold code
  simp only [Try.f80, Option.getD_some]
  have hV : val [b0, b1, b2, b3] = (V4 b0 b1 b2 b3) := rfl
  have l4 := lim4 hp.1.1 hp.1.2.1 hp.1.2.2.1 hp.1.2.2.2
  all_goals repeat' (first
    | ((first
       | (with_reducible refine ops_k ?_; intro X hX)
       | (with_reducible refine opsN_k ?_; intro X hX)
       | (with_reducible show awp _ _ _ _ (keepL _ _) _)
       | (with_reducible refine hX _ _ _ _ ?_; clear hX X)
       | (with_reducible refine opsD_k ?_; intro X hX)
       | with_reducible refine awp_cond_k ?_
       | (with_reducible refine Brk_i ?_ ?_ <;> intro hb <;> (try simp only [hb]) <;> have hq := hb <;> try simp only [decide_eq_true_eq, decide_eq_false_iff_not, gt_iff_lt, ge_iff_le, Int.not_lt, Int.not_le, beq_iff_eq, beq_eq_false_iff_ne, Bool.not_eq_true', Bool.not_eq_false', Bool.and_eq_true, Bool.or_eq_true, Bool.and_eq_false_imp, Bool.or_eq_false_iff, ne_eq, Classical.not_not] at hq)
       | with_reducible refine retP_ret_i ?_
       | with_reducible refine retP_normal_i ?_
       | (with_reducible (show bindG _ _ _ _ _); simp only [hall])) <;> try simp only [Go.AM.S1, Go.AM.S2, Go.AM.S3, Go.AM.S4, Go.AM.S5, Go.AM.S6, Go.AM.S7, Go.AM.S8, Go.AM.S9, Nat.reduceAdd, Nat.reduceMul, Nat.reduceSub, ↓reduceIte, Nat.reduceEqDiff, Nat.reduceLT, Nat.reduceLeDiff, reduceCtorEq, Int.reduceBEq, Int.reduceBNe, Nat.reduceBEq, Int.reduceEq, Int.reduceToNat, Int.reduceLE, Int.reduceLT, Nat.reduceDiv, Int.reduceAdd, Int.reduceSub, Int.reduceMul, Int.reduceNeg, Int.reduceGT, Int.reduceGE, Nat.reduceMod, k80_60, s60_eq, s60_nil1, k80_86, s86_eq, s86_nil1, k80_88, s88_eq, s88_nil1, s88_nil2, s88_nil3, ty_3, ty_26, ty_28, ty_42, hV, val_limbs, limbs_getD, toInts])
    | (with_reducible refine hX _ _ ?_; clear hX X)
    | (with_reducible refine opsD_nil_i ?_; try clear hall all)
    | (with_reducible refine keysB_i ?_; kernel_rfl)
    | ((with_reducible show clashK _ _ _ = true); kernel_rfl)
    | (with_reducible refine ops_nil_i ?_; try clear hall all)
    | (with_reducible refine opsN_nil_i ?_; try clear hall all)
    | (with_reducible refine hK _ _ ?_; clear hK K)
    | with_reducible refine thenP_normal_i ?_
    | (with_reducible refine zzr1 _ _ ?_; try clear zzr1 Kzzr1)
    | (with_reducible refine zzr0 _ _ ?_; try clear zzr0 Kzzr0)
    | (with_reducible refine awp_seq_l (a := .region 1 _ _) [6] ?_; intro Kzzr1 zzr1)
    | (with_reducible refine awp_seq_l (a := .region 0 _ _) [1, 2, 3, 6] ?_; intro Kzzr0 zzr0)
    | (with_reducible refine awp_seq_k ?_; intro K hK)
    | (with_reducible refine awp_region_a ?_; intro all hall K hK)
    | (with_reducible refine awp_draw_a (id := 1) ?_ ?_; kernel_rfl; intro all hall K hK)
    | (with_reducible refine awp_draw_n ?_ ?_; kernel_rfl; intro all hall K hK)
    | (with_reducible refine Chk_i ?_ ?_)
    | (with_reducible refine keysC_i ?_; kernel_rfl)
    | (with_reducible first | refine awp_block_i ?_ | refine awp_skip_i ?_ | refine awp_ret_i ?_ | refine awp_exit_i ?_ | refine thenP_ret_i ?_ | refine thenP_exit_i ?_ | refine lpP_ret_i ?_ | refine lpP_exit_i ?_ | refine unrP_succ_i ?_ | refine unrP_ret_i ?_ | refine unrP_exit_i ?_ | refine blockP_normal_i ?_ | refine blockP_ret_i ?_)
    | (with_reducible refine blockP_exit_i ?_; simp only [↓reduceIte, Nat.reduceEqDiff])
    | with_reducible refine lpP_normal_i ?_)
  all_goals (try clear zzr0; try clear Kzzr0)
  all_goals (try clear zzr1; try clear Kzzr1)
  · exact ⟨⟨hp.2.1.1, by omega⟩, by omega, by omega⟩
  · exact ⟨l4, lim_limbs _, by have := len_valpow hp.2.1.1 p.toNat; omega⟩
theorem sound_80 : Sound Try.prog 80 .body (norm s80) := by
  refine sound_norm (sound_body Try.func80 (show Try.f80.body = some (code Try.f80) from rfl) (by kernel_rfl) tysOk G80_ok (drawOk_ok (by kernel_rfl) tysOk G80_ok) (by kernel_rfl) fun ds p r hs hp => ?_)
  unfold s80 at hs
  split at hs
  · cases hs; exact ⟨Nat.le_of_ble_eq_true (by kernel_rfl), w80 _ _ _ _ _ _ hp⟩
  · cases hs
end Go.Proofs.AMT
set_option maxRecDepth 20000
namespace Go.Proofs.AMT
open Go.AM Go.AM.LN
attribute [local congr] bindO_congr bindS_congr bindG_congr awpOps_congr aOne_congr awp_congr aCond_congr awpD_congr dOne_congr keysB_congr nOne_congr thenP_congr blockP_congr Chk_congr Brk_congr
noncomputable def s57 : CSpec := fun ds => match ds with
  | [.sl .u64 a, .v (.int .i64 n)] => some ((lim a ∧ a.length ≤ 60000000) ∧ 0 ≤ n ∧ n ≤ 1000000000, .many [.fresh .u64 (limbs (val a / 2 ^ n.toNat)), .v (.bool (goneS a (n.toNat / 64) (n.toNat % 64) a.length))])
  | _ => none
theorem s57_eq (a : List Int) (n : Int) : norm s57 [.sl .u64 a, .v (.int .i64 n)] = some ((lim a ∧ a.length ≤ 60000000) ∧ 0 ≤ n ∧ n ≤ 1000000000, .many [.fresh .u64 (limbs (val a / 2 ^ n.toNat)), .v (.bool (goneS a (n.toNat / 64) (n.toNat % 64) a.length))]) := rfl
theorem s57_nil1  (n : Int) : norm s57 [.v (.slice none 0 0), .v (.int .i64 n)] = some ((lim ([] : List Int) ∧ ([] : List Int).length ≤ 60000000) ∧ 0 ≤ n ∧ n ≤ 1000000000, .many [.fresh .u64 (limbs (val ([] : List Int) / 2 ^ n.toNat)), .v (.bool (goneS ([] : List Int) (n.toNat / 64) (n.toNat % 64) ([] : List Int).length))]) := rfl
noncomputable def G57 : Gam := [(33, .body, norm s33), (89, .body, norm s89)]
theorem G57_ok : GamOk Try.prog G57 := gamOk_cons sound_33 (gamOk_cons sound_89 gamOk_nil)
theorem k57_33 : lk G57 33 = some (.body, norm s33) := rfl
theorem k57_89 : lk G57 89 = some (.body, norm s89) := rfl
set_option maxHeartbeats 20000000 in
theorem w57 (a : List Int) (n : Int) (hp : (lim a ∧ a.length ≤ 60000000) ∧ 0 ≤ n ∧ n ≤ 1000000000) : awp ty G57 (code Try.f57) (retP ty Try.f57.results.toList (.many [.fresh .u64 (limbs (val a / 2 ^ n.toNat)), .v (.bool (goneS a (n.toNat / 64) (n.toNat % 64) a.length))])) (entry 0 [.sl .u64 a, .v (.int .i64 n)]) [] := by
  unfold code
  simp only [Try.f57, Option.getD_some]
  obtain ⟨k, rfl⟩ := Int.eq_ofNat_of_zero_le hp.2.1
  have hk : k = 64 * (k / 64) + k % 64 := by omega
  have mT : (k : Int).toNat = k := by omega
  obtain ⟨w, hw⟩ : ∃ w, k / 64 = w := ⟨_, rfl⟩
  obtain ⟨t, ht⟩ : ∃ t, k % 64 = t := ⟨_, rfl⟩
  have hd : (k : Int).tdiv 64 = (w : Int) := by rw [Int.tdiv_eq_ediv_of_nonneg (by omega)]; omega
  have hm : (k : Int).tmod 64 = (t : Int) := by rw [Int.tmod_eq_emod_of_nonneg (by omega)]; omega
  have hmm : (t : Int) % 18446744073709551616 = (t : Int) := by omega
  have m1 : min t 64 = t := by omega
  have m2 : ((64 - (t : Int)) % 18446744073709551616).toNat = 64 - t := by omega
  have m3 : min (64 - t) 64 = 64 - t := by omega
  have p1 : (2 : Int) ^ t < 2 ^ 64 := by exact_mod_cast Nat.pow_lt_pow_right (by omega) (show t < 64 by omega)
  have p2 : (1 : Int) ≤ 2 ^ t := by exact_mod_cast Nat.one_le_two_pow
  have p3 : (2 : Int) ^ 64 = 18446744073709551616 := by decide
  have mk : 1 * (2 : Int) ^ t % 18446744073709551616 = 2 ^ t := by omega
  have mk2 : ((2 : Int) ^ t - 1) % 18446744073709551616 = 2 ^ t - 1 := by omega
  clear p1 p2 p3
  rcases Nat.eq_zero_or_pos t with ht0 | ht0
  all_goals first
    | (have g5 : decide ((t : Int) > 0) = true := by simp only [decide_eq_true_eq]; omega)
    | (have g5 : decide ((t : Int) > 0) = false := by simp only [decide_eq_false_iff_not]; omega)
  all_goals repeat' (first
    | ((first
       | (with_reducible refine ops_k ?_; intro X hX)
       | (with_reducible refine opsN_k ?_; intro X hX)
       | (with_reducible show awp _ _ _ _ (keepL _ _) _)
       | with_reducible refine awp_cond_k ?_
       | (with_reducible refine Brk_i ?_ ?_ <;> intro hb <;> (try simp only [hb]) <;> have hq := hb <;> try simp only [decide_eq_true_eq, decide_eq_false_iff_not, gt_iff_lt, ge_iff_le, Int.not_lt, Int.not_le, beq_iff_eq, beq_eq_false_iff_ne, Bool.not_eq_true', Bool.not_eq_false', Bool.and_eq_true, Bool.or_eq_true, Bool.and_eq_false_imp, Bool.or_eq_false_iff, ne_eq, Classical.not_not] at hq)
       | with_reducible refine retP_ret_i ?_
       | with_reducible refine retP_normal_i ?_
       | (with_reducible (show bindG _ _ _ _ _); simp only [hall])) <;> try simp only [Go.AM.S1, Go.AM.S2, Go.AM.S3, Go.AM.S4, Go.AM.S5, Go.AM.S6, Go.AM.S7, Go.AM.S8, Go.AM.S9, Nat.reduceAdd, Nat.reduceMul, Nat.reduceSub, ↓reduceIte, Nat.reduceEqDiff, Nat.reduceLT, Nat.reduceLeDiff, reduceCtorEq, Int.reduceBEq, Int.reduceBNe, Nat.reduceBEq, Int.reduceEq, Int.reduceToNat, Int.reduceLE, Int.reduceLT, Nat.reduceDiv, Int.reduceAdd, Int.reduceSub, Int.reduceMul, Int.reduceNeg, Int.reduceGT, Int.reduceGE, Nat.reduceMod, k57_33, s33_eq, s33_nil1, k57_89, s89_eq, s89_nil1, ty_3, ty_26, ty_42, ty_72, aOne_append, bindP_some, spAppend, intSl, yInts, killE, namesT, names, List.map_cons, List.map_nil, toInts, hd, hm, hmm, hw, ht, mT, IntKind.bits, m1, m2, m3, mk, mk2, g5, List.length_append])
    | (with_reducible refine hX _ _ ?_; clear hX X)
    | (with_reducible refine ops_nil_i ?_; try clear hall all)
    | (with_reducible refine opsN_nil_i ?_; try clear hall all)
    | (with_reducible refine hK _ _ ?_; clear hK K)
    | with_reducible refine thenP_normal_i ?_
    | (with_reducible refine zzr16 _ _ ?_; try clear zzr16 Kzzr16)
    | (with_reducible refine zzsr9 _ _ ?_; try clear zzsr9 Kzzsr9)
    | (with_reducible refine zzb3 _ _ ?_; try clear zzb3 Kzzb3)
    | (with_reducible refine zzsr13 _ _ ?_; try clear zzsr13 Kzzsr13)
    | (with_reducible refine zzr13 _ _ ?_; try clear zzr13 Kzzr13)
    | (with_reducible refine zzr12 _ _ ?_; try clear zzr12 Kzzr12)
    | (with_reducible refine zzsr10 _ _ ?_; try clear zzsr10 Kzzsr10)
    | (with_reducible refine zzr10 _ _ ?_; try clear zzr10 Kzzr10)
    | (with_reducible refine zzr9 _ _ ?_; try clear zzr9 Kzzr9)
    | (with_reducible refine zzr8 _ _ ?_; try clear zzr8 Kzzr8)
    | (with_reducible refine zzsr2 _ _ ?_; try clear zzsr2 Kzzsr2)
    | (with_reducible refine zzb1 _ _ ?_; try clear zzb1 Kzzb1)
    | (with_reducible refine zzr5 _ _ ?_; try clear zzr5 Kzzr5)
    | (with_reducible refine zzr4 _ _ ?_; try clear zzr4 Kzzr4)
    | (with_reducible refine zzctmp14 _ _ ?_; try clear zzctmp14 Kzzctmp14)
    | (with_reducible refine zzr3 _ _ ?_; try clear zzr3 Kzzr3)
    | (with_reducible refine zzr2 _ _ ?_; try clear zzr2 Kzzr2)
    | (with_reducible refine zzr1 _ _ ?_; try clear zzr1 Kzzr1)
    | (with_reducible refine zzr0 _ _ ?_; try clear zzr0 Kzzr0)
    | (with_reducible refine awp_lp (c := .seq (.region 3 _ _) _) (σ := Nat) (fun s => s ≤ a.length) (fun s => [(0, .rd .u64 a), (1, .v (.int .i64 k)), (6, .v (.bool (goneS a w t s))), (12, .v (.int .i64 a.length)), (13, .v (.int .i64 s))]) (fun s => []) (fun s => a.length - s) 0 ?_ ?_ (fun s hs => ?_))
    | (with_reducible refine awp_lp (c := .seq (.seq (.region 10 _ _) _) _) (σ := Nat × List Int) (fun z => (w ≤ z.1 ∧ (z.1 ≤ a.length ∨ z.1 = w) ∧ z.2.length = z.1 - w) ∧ lim z.2 ∧ val z.2 + 2 ^ (64 * (z.1 - w)) * (val (a.drop z.1) / 2 ^ t) = val (a.drop w) / 2 ^ t) (fun z => [(0, .rd .u64 a), (1, .v (.int .i64 k)), (6, .v (.bool (goneS a w t a.length))), (8, .ow 1280), (9, .v (.int .i64 z.1))]) (fun z => [(1280, .ints .u64 z.2, false)]) (fun z => a.length + w - z.1) (w, []) ?_ ?_ (fun z hz => ?_))
    | (with_reducible refine awp_seq_l (a := .region 16 _ _) [4, 5] ?_; intro Kzzr16 zzr16)
    | (with_reducible refine awp_seq_l (a := .seq (.region 9 _ _) _) [6, 8] ?_; intro Kzzsr9 zzsr9)
    | (with_reducible refine awp_seq_l (a := .block 3 _) [0, 1, 6, 8, 9] ?_; intro Kzzb3 zzb3)
    | (with_reducible refine awp_seq_l (a := .seq (.region 13 _ _) _) [0, 1, 6, 8, 9, 10] ?_; intro Kzzsr13 zzsr13)
    | (with_reducible refine awp_seq_l (a := .region 13 _ _) [0, 1, 6, 8, 9, 10, 65] ?_; intro Kzzr13 zzr13)
    | (with_reducible refine awp_seq_l (a := .region 12 _ _) [0, 1, 6, 8, 9, 10] ?_; intro Kzzr12 zzr12)
    | (with_reducible refine awp_seq_l (a := .seq (.region 10 _ _) _) [0, 1, 6, 8, 9] ?_; intro Kzzsr10 zzsr10)
    | (with_reducible refine awp_seq_l (a := .region 10 _ _) [0, 1, 6, 8, 9, 52] ?_; intro Kzzr10 zzr10)
    | (with_reducible refine awp_seq_l (a := .region 9 _ _) [0, 1, 6, 8, 9] ?_; intro Kzzr9 zzr9)
    | (with_reducible refine awp_seq_l (a := .region 8 _ _) [0, 1, 6, 8] ?_; intro Kzzr8 zzr8)
    | (with_reducible refine awp_seq_l (a := .seq (.region 2 _ _) _) [0, 1, 6] ?_; intro Kzzsr2 zzsr2)
    | (with_reducible refine awp_seq_l (a := .block 1 _) [0, 1, 6, 12, 13] ?_; intro Kzzb1 zzb1)
    | (with_reducible refine awp_seq_l (a := .region 5 _ _) [0, 1, 6, 12, 13, 45] ?_; intro Kzzr5 zzr5)
    | (with_reducible refine awp_seq_l (a := .region 4 _ _) [0, 1, 6, 7, 12, 13] ?_; intro Kzzr4 zzr4)
    | (with_reducible refine awp_seq_l (a := .cond (.tmp 14) _ _) [0, 1, 6, 12, 13] ?_; intro Kzzctmp14 zzctmp14)
    | (with_reducible refine awp_seq_l (a := .region 3 _ _) [0, 1, 6, 12, 13, 14] ?_; intro Kzzr3 zzr3)
    | (with_reducible refine awp_seq_l (a := .region 2 _ _) [0, 1, 6, 12, 13] ?_; intro Kzzr2 zzr2)
    | (with_reducible refine awp_seq_l (a := .region 1 _ _) [0, 1, 6] ?_; intro Kzzr1 zzr1)
    | (with_reducible refine awp_seq_l (a := .region 0 _ _) [0, 1] ?_; intro Kzzr0 zzr0)
    | (with_reducible refine awp_seq_k ?_; intro K hK)
    | (with_reducible refine awp_region_a ?_; intro all hall K hK)
    | (with_reducible refine awp_draw_n ?_ ?_; kernel_rfl; intro all hall K hK)
    | (with_reducible refine Chk_i ?_ ?_)
    | (with_reducible refine keysC_i ?_; kernel_rfl)
    | (with_reducible first | refine awp_block_i ?_ | refine awp_skip_i ?_ | refine awp_ret_i ?_ | refine awp_exit_i ?_ | refine thenP_ret_i ?_ | refine thenP_exit_i ?_ | refine lpP_ret_i ?_ | refine lpP_exit_i ?_ | refine unrP_succ_i ?_ | refine unrP_ret_i ?_ | refine unrP_exit_i ?_ | refine blockP_normal_i ?_ | refine blockP_ret_i ?_)
    | (with_reducible refine blockP_exit_i ?_; simp only [↓reduceIte, Nat.reduceEqDiff])
    | with_reducible refine lpP_normal_i ?_)
  all_goals (try clear zzr0; try clear Kzzr0)
  all_goals (try clear zzr1; try clear Kzzr1)
  all_goals (try clear zzr2; try clear Kzzr2)
  all_goals (try clear zzr3; try clear Kzzr3)
  all_goals (try clear zzctmp14; try clear Kzzctmp14)
  all_goals (try clear zzr4; try clear Kzzr4)
  all_goals (try clear zzr5; try clear Kzzr5)
  all_goals (try clear zzb1; try clear Kzzb1)
  all_goals (try clear zzsr2; try clear Kzzsr2)
  all_goals (try clear zzr8; try clear Kzzr8)
  all_goals (try clear zzr9; try clear Kzzr9)
  all_goals (try clear zzr10; try clear Kzzr10)
  all_goals (try clear zzsr10; try clear Kzzsr10)
  all_goals (try clear zzr12; try clear Kzzr12)
  all_goals (try clear zzr13; try clear Kzzr13)
  all_goals (try clear zzsr13; try clear Kzzsr13)
  all_goals (try clear zzb3; try clear Kzzb3)
  all_goals (try clear zzsr9; try clear Kzzsr9)
  all_goals (try clear zzr16; try clear Kzzr16)
  all_goals clear hmm m1 m2 m3 mT g5 hm hd mk mk2
  all_goals (try simp only [inR])
  all_goals (try (rcases z with ⟨i, o⟩))
  all_goals (try dsimp only at *)
  all_goals first
    | omega
    | exact ⟨hp.1.1, by omega⟩
    | exact ⟨by omega, by omega⟩
    | (rw [goneS_zero]; (refine ent_ok [] rfl ?_ ?_ <;> simp only [memLe, slotsLe, AvLe, lk, ↓reduceIte, Nat.reduceEqDiff, Option.isSome_some, and_self, and_true, true_and, reduceCtorEq, List.map_nil, List.map_cons, Option.some.injEq, AV.v.injEq, Value.int.injEq, Value.bool.injEq, AV.rd.injEq, AV.ow.injEq, AV.al.injEq, AV.ref.injEq] <;> omega); done)
    | exact ⟨s + 1, (by rw [gone_t1 (by assumption) (by assumption)]; (refine ent_ok [] rfl ?_ ?_ <;> simp only [memLe, slotsLe, AvLe, lk, ↓reduceIte, Nat.reduceEqDiff, Option.isSome_some, and_self, and_true, true_and, reduceCtorEq, List.map_nil, List.map_cons, Option.some.injEq, AV.v.injEq, Value.int.injEq, Value.bool.injEq, AV.rd.injEq, AV.ow.injEq, AV.al.injEq, AV.ref.injEq] <;> omega)), by omega, by omega⟩
    | exact ⟨s + 1, (by rw [gone_t2 (by assumption) (by assumption)]; (refine ent_ok [] rfl ?_ ?_ <;> simp only [memLe, slotsLe, AvLe, lk, ↓reduceIte, Nat.reduceEqDiff, Option.isSome_some, and_self, and_true, true_and, reduceCtorEq, List.map_nil, List.map_cons, Option.some.injEq, AV.v.injEq, Value.int.injEq, Value.bool.injEq, AV.rd.injEq, AV.ow.injEq, AV.al.injEq, AV.ref.injEq] <;> omega)), by omega, by omega⟩
    | exact ⟨s + 1, (by rw [gone_f (fun h => by first | assumption | omega) (fun h => by first | assumption | omega)]; (refine ent_ok [] rfl ?_ ?_ <;> simp only [memLe, slotsLe, AvLe, lk, ↓reduceIte, Nat.reduceEqDiff, Option.isSome_some, and_self, and_true, true_and, reduceCtorEq, List.map_nil, List.map_cons, Option.some.injEq, AV.v.injEq, Value.int.injEq, Value.bool.injEq, AV.rd.injEq, AV.ow.injEq, AV.al.injEq, AV.ref.injEq] <;> omega)), by omega, by omega⟩
    | exact ⟨⟨Nat.le_refl _, .inr trivial, by simp⟩, fun x hx => by simp at hx, by simp [val]⟩
    | exact ⟨⟨Nat.le_refl _, .inr trivial, by simp⟩, by simp [lim], by simp [val]⟩
    | (have e : s = a.length := by omega
       rw [e]; (refine ent_ok [] rfl ?_ ?_ <;> simp [memLe, slotsLe, AvLe, lk, Ct.len]); done)
    | exact ⟨hz.2.1, by omega⟩
    | (have hk2 : k = 64 * w + t := by omega
       have hi : a.length ≤ i := by omega
       rw [right_fin hp.1.1 hk2 hi hz.2.2]; done)
    | (rw [rX0 hp.1.1 ht0]
       have hl := hz.1.2.2
       exact ⟨(i + 1, o ++ [(rX a i t : Int)]), (by (refine ent_ok [(1280, 1280)] rfl ?_ ?_ <;> simp only [memLe, slotsLe, AvLe, lk, ↓reduceIte, Nat.reduceEqDiff, Option.isSome_some, and_self, and_true, true_and, reduceCtorEq, List.map_nil, List.map_cons, Option.some.injEq, AV.v.injEq, Value.int.injEq, Value.bool.injEq, AV.rd.injEq, AV.ow.injEq, AV.al.injEq, AV.ref.injEq] <;> omega)), ⟨⟨by dsimp only; omega, .inl (by dsimp only; omega), by simp; omega⟩, lim_app.2 ⟨hz.2.1, lim_one (nat_lim (rX_lt hp.1.1 (by omega)))⟩, right_go hp.1.1 (by omega) hl (by omega) hz.2.2⟩, by dsimp only; omega⟩)
    | (have e : ((i : Int) + 1).toNat = i + 1 := by omega
       rw [e, rX1 hp.1.1 (by omega)]
       have hl := hz.1.2.2
       exact ⟨(i + 1, o ++ [(rX a i t : Int)]), (by (refine ent_ok [(1280, 1280)] rfl ?_ ?_ <;> simp only [memLe, slotsLe, AvLe, lk, ↓reduceIte, Nat.reduceEqDiff, Option.isSome_some, and_self, and_true, true_and, reduceCtorEq, List.map_nil, List.map_cons, Option.some.injEq, AV.v.injEq, Value.int.injEq, Value.bool.injEq, AV.rd.injEq, AV.ow.injEq, AV.al.injEq, AV.ref.injEq] <;> omega)), ⟨⟨by dsimp only; omega, .inl (by dsimp only; omega), by simp; omega⟩, lim_app.2 ⟨hz.2.1, lim_one (nat_lim (rX_lt hp.1.1 (by omega)))⟩, right_go hp.1.1 (by omega) hl (by omega) hz.2.2⟩, by dsimp only; omega⟩)
    | skip
theorem sound_57 : Sound Try.prog 57 .body (norm s57) := by
  refine sound_norm (sound_body Try.func57 (show Try.f57.body = some (code Try.f57) from rfl) (by kernel_rfl) tysOk G57_ok (drawOk_ok (by kernel_rfl) tysOk G57_ok) (by kernel_rfl) fun ds p r hs hp => ?_)
  unfold s57 at hs
  split at hs
  · cases hs; exact ⟨Nat.le_of_ble_eq_true (by kernel_rfl), w57 _ _ hp⟩
  · cases hs
end Go.Proofs.AMT
set_option maxRecDepth 20000
namespace Go.Proofs.AMT
open Go.AM Go.AM.LN
attribute [local congr] bindO_congr bindS_congr bindG_congr awpOps_congr aOne_congr awp_congr aCond_congr awpD_congr dOne_congr keysB_congr nOne_congr thenP_congr blockP_congr Chk_congr Brk_congr
noncomputable def s90 : CSpec := fun ds => match ds with
  | [.sl .u64 a, .sl .u64 b] => some (((lim a ∧ a.length ≤ 50000000) ∧ lim b ∧ b.length ≤ 50000000) ∧ val b ≤ val a, .one (.fresh .u64 (limbs (val a - val b))))
  | _ => none
theorem s90_eq (a : List Int) (b : List Int) : norm s90 [.sl .u64 a, .sl .u64 b] = some (((lim a ∧ a.length ≤ 50000000) ∧ lim b ∧ b.length ≤ 50000000) ∧ val b ≤ val a, .one (.fresh .u64 (limbs (val a - val b)))) := rfl
theorem s90_nil1  (b : List Int) : norm s90 [.v (.slice none 0 0), .sl .u64 b] = some (((lim ([] : List Int) ∧ ([] : List Int).length ≤ 50000000) ∧ lim b ∧ b.length ≤ 50000000) ∧ val b ≤ val ([] : List Int), .one (.fresh .u64 (limbs (val ([] : List Int) - val b)))) := rfl
theorem s90_nil2 (a : List Int)  : norm s90 [.sl .u64 a, .v (.slice none 0 0)] = some (((lim a ∧ a.length ≤ 50000000) ∧ lim ([] : List Int) ∧ ([] : List Int).length ≤ 50000000) ∧ val ([] : List Int) ≤ val a, .one (.fresh .u64 (limbs (val a - val ([] : List Int))))) := rfl
theorem s90_nil3   : norm s90 [.v (.slice none 0 0), .v (.slice none 0 0)] = some (((lim ([] : List Int) ∧ ([] : List Int).length ≤ 50000000) ∧ lim ([] : List Int) ∧ ([] : List Int).length ≤ 50000000) ∧ val ([] : List Int) ≤ val ([] : List Int), .one (.fresh .u64 (limbs (val ([] : List Int) - val ([] : List Int))))) := rfl
noncomputable def G90 : Gam := [(33, .body, norm s33), (89, .body, norm s89), (98, .ext, sSub64)]
theorem G90_ok : GamOk Try.prog G90 := gamOk_cons sound_33 (gamOk_cons sound_89 (gamOk_cons ext_98 gamOk_nil))
theorem k90_33 : lk G90 33 = some (.body, norm s33) := rfl
theorem k90_89 : lk G90 89 = some (.body, norm s89) := rfl
theorem k90_98 : lk G90 98 = some (.ext, sSub64) := rfl
set_option maxHeartbeats 20000000 in
theorem w90 (a : List Int) (b : List Int) (hp : ((lim a ∧ a.length ≤ 50000000) ∧ lim b ∧ b.length ≤ 50000000) ∧ val b ≤ val a) : awp ty G90 (code Try.f90) (retP ty Try.f90.results.toList (.one (.fresh .u64 (limbs (val a - val b))))) (entry 0 [.sl .u64 a, .sl .u64 b]) [] := by
  unfold code
  simp only [Try.f90, Option.getD_some]
  obtain ⟨N, hN⟩ : ∃ N, max a.length b.length = N := ⟨_, rfl⟩
  have mE : max (a.length : Int) (b.length : Int) = (N : Int) := by omega
  have mT : ((N : Int)).toNat = N := Int.toNat_natCast N
  all_goals repeat' (first
    | ((first
       | (with_reducible refine ops_k ?_; intro X hX)
       | (with_reducible refine opsN_k ?_; intro X hX)
       | (with_reducible show awp _ _ _ _ (keepL _ _) _)
       | with_reducible refine awp_cond_k ?_
       | (with_reducible refine Brk_i ?_ ?_ <;> intro hb <;> (try simp only [hb]) <;> have hq := hb <;> try simp only [decide_eq_true_eq, decide_eq_false_iff_not, gt_iff_lt, ge_iff_le, Int.not_lt, Int.not_le, beq_iff_eq, beq_eq_false_iff_ne, Bool.not_eq_true', Bool.not_eq_false', Bool.and_eq_true, Bool.or_eq_true, Bool.and_eq_false_imp, Bool.or_eq_false_iff, ne_eq, Classical.not_not] at hq)
       | with_reducible refine retP_ret_i ?_
       | with_reducible refine retP_normal_i ?_
       | (with_reducible (show bindG _ _ _ _ _); simp only [hall])) <;> try simp only [Go.AM.S1, Go.AM.S2, Go.AM.S3, Go.AM.S4, Go.AM.S5, Go.AM.S6, Go.AM.S7, Go.AM.S8, Go.AM.S9, Nat.reduceAdd, Nat.reduceMul, Nat.reduceSub, ↓reduceIte, Nat.reduceEqDiff, Nat.reduceLT, Nat.reduceLeDiff, reduceCtorEq, Int.reduceBEq, Int.reduceBNe, Nat.reduceBEq, Int.reduceEq, Int.reduceToNat, Int.reduceLE, Int.reduceLT, Nat.reduceDiv, Int.reduceAdd, Int.reduceSub, Int.reduceMul, Int.reduceNeg, Int.reduceGT, Int.reduceGE, Nat.reduceMod, k90_33, s33_eq, s33_nil1, k90_89, s89_eq, s89_nil1, k90_98, sSub64_eq, ty_3, ty_26, ty_42, mE, mT, List.length_replicate])
    | (with_reducible refine hX _ _ ?_; clear hX X)
    | (with_reducible refine ops_nil_i ?_; try clear hall all)
    | (with_reducible refine opsN_nil_i ?_; try clear hall all)
    | (with_reducible refine hK _ _ ?_; clear hK K)
    | with_reducible refine thenP_normal_i ?_
    | (with_reducible refine zzr8 _ _ ?_; try clear zzr8 Kzzr8)
    | (with_reducible refine zzsr3 _ _ ?_; try clear zzsr3 Kzzsr3)
    | (with_reducible refine zzb1 _ _ ?_; try clear zzb1 Kzzb1)
    | (with_reducible refine zzr5 _ _ ?_; try clear zzr5 Kzzr5)
    | (with_reducible refine zzctmp17 _ _ ?_; try clear zzctmp17 Kzzctmp17)
    | (with_reducible refine zzr4 _ _ ?_; try clear zzr4 Kzzr4)
    | (with_reducible refine zzr3 _ _ ?_; try clear zzr3 Kzzr3)
    | (with_reducible refine zzr2 _ _ ?_; try clear zzr2 Kzzr2)
    | (with_reducible refine zzr1 _ _ ?_; try clear zzr1 Kzzr1)
    | (with_reducible refine zzr0 _ _ ?_; try clear zzr0 Kzzr0)
    | (with_reducible refine awp_lp (σ := Nat × Nat × List Int) (fun s => (s.1 ≤ N ∧ s.2.1 ≤ 1 ∧ s.2.2.length = N) ∧ lim s.2.2 ∧ val (s.2.2.take s.1) + val (b.take s.1) = val (a.take s.1) + s.2.1 * 2 ^ (64 * s.1)) (fun s => [(0, .rd .u64 a), (1, .rd .u64 b), (5, .ow 208), (6, .v (.int .u64 s.2.1)), (15, .v (.int .i64 N)), (16, .v (.int .i64 s.1))]) (fun s => [(208, .ints .u64 s.2.2, false)]) (fun s => N - s.1) (0, 0, List.replicate N 0) ?_ ?_ (fun s hs => ?_))
    | (with_reducible refine awp_seq_l (a := .region 8 _ _) [4] ?_; intro Kzzr8 zzr8)
    | (with_reducible refine awp_seq_l (a := .seq (.region 3 _ _) _) [5] ?_; intro Kzzsr3 zzsr3)
    | (with_reducible refine awp_seq_l (a := .block 1 _) [0, 1, 5, 6, 15, 16] ?_; intro Kzzb1 zzb1)
    | (with_reducible refine awp_seq_l (a := .region 5 _ _) [0, 1, 5, 6, 7, 15, 16] ?_; intro Kzzr5 zzr5)
    | (with_reducible refine awp_seq_l (a := .cond (.tmp 17) _ _) [0, 1, 5, 6, 15, 16] ?_; intro Kzzctmp17 zzctmp17)
    | (with_reducible refine awp_seq_l (a := .region 4 _ _) [0, 1, 5, 6, 15, 16, 17] ?_; intro Kzzr4 zzr4)
    | (with_reducible refine awp_seq_l (a := .region 3 _ _) [0, 1, 5, 6, 15, 16] ?_; intro Kzzr3 zzr3)
    | (with_reducible refine awp_seq_l (a := .region 2 _ _) [0, 1, 5, 6] ?_; intro Kzzr2 zzr2)
    | (with_reducible refine awp_seq_l (a := .region 1 _ _) [0, 1, 5] ?_; intro Kzzr1 zzr1)
    | (with_reducible refine awp_seq_l (a := .region 0 _ _) [0, 1] ?_; intro Kzzr0 zzr0)
    | (with_reducible refine awp_seq_k ?_; intro K hK)
    | (with_reducible refine awp_region_a ?_; intro all hall K hK)
    | (with_reducible refine awp_draw_n ?_ ?_; kernel_rfl; intro all hall K hK)
    | (with_reducible refine Chk_i ?_ ?_)
    | (with_reducible refine keysC_i ?_; kernel_rfl)
    | (with_reducible first | refine awp_block_i ?_ | refine awp_skip_i ?_ | refine awp_ret_i ?_ | refine awp_exit_i ?_ | refine thenP_ret_i ?_ | refine thenP_exit_i ?_ | refine lpP_ret_i ?_ | refine lpP_exit_i ?_ | refine unrP_succ_i ?_ | refine unrP_ret_i ?_ | refine unrP_exit_i ?_ | refine blockP_normal_i ?_ | refine blockP_ret_i ?_)
    | (with_reducible refine blockP_exit_i ?_; simp only [↓reduceIte, Nat.reduceEqDiff])
    | with_reducible refine lpP_normal_i ?_)
  all_goals (try clear zzr0; try clear Kzzr0)
  all_goals (try clear zzr1; try clear Kzzr1)
  all_goals (try clear zzr2; try clear Kzzr2)
  all_goals (try clear zzr3; try clear Kzzr3)
  all_goals (try clear zzr4; try clear Kzzr4)
  all_goals (try clear zzctmp17; try clear Kzzctmp17)
  all_goals (try clear zzr5; try clear Kzzr5)
  all_goals (try clear zzb1; try clear Kzzb1)
  all_goals (try clear zzsr3; try clear Kzzsr3)
  all_goals (try clear zzr8; try clear Kzzr8)
  all_goals clear mE mT
  all_goals (try (rcases s with ⟨i, c, o⟩))
  all_goals (try (obtain ⟨ss, hs⟩ := hs))
  all_goals (try dsimp only at *)
  all_goals (try simp only [inR])
  all_goals (try omega)
  · exact ⟨⟨Nat.zero_le _, by omega, by simp⟩, lim_rep _, by simp [val]⟩
  · exact Ent.refl _ _
  · have h1 := lim_get hp.1.1.1 (i := i)
    have h2 := lim_get hp.1.2.1 (i := i)
    omega
  · obtain ⟨c', s', e1, e2, e3, e4, e5⟩ := less_step hp.1.1.1 hp.1.2.1 (show c ≤ 1 by omega) (show i < o.length by omega) hs.2
    rw [e1, e2]
    exact ⟨(i + 1, c', o.set i (s' : Int)), (by (refine ent_ok [(208, 208)] rfl ?_ ?_ <;> simp only [memLe, slotsLe, AvLe, lk, ↓reduceIte, Nat.reduceEqDiff, Option.isSome_some, and_self, and_true, true_and, reduceCtorEq, List.map_nil, List.map_cons, Option.some.injEq, AV.v.injEq, Value.int.injEq, Value.bool.injEq, AV.rd.injEq, AV.ow.injEq, AV.al.injEq, AV.ref.injEq] <;> omega)), ⟨⟨by dsimp only; omega, e3, by simp; omega⟩, lim_set hs.1 (nat_lim e4) _, e5⟩, by dsimp only; omega⟩
  · exact ⟨hs.1, by omega⟩
  · have hi : i = N := by omega
    subst hi
    rw [less_fin hp.1.1.1 hp.1.2.1 hs.1 (by omega) (by omega) (by omega) hp.2 hs.2]
theorem sound_90 : Sound Try.prog 90 .body (norm s90) := by
  refine sound_norm (sound_body Try.func90 (show Try.f90.body = some (code Try.f90) from rfl) (by kernel_rfl) tysOk G90_ok (drawOk_ok (by kernel_rfl) tysOk G90_ok) (by kernel_rfl) fun ds p r hs hp => ?_)
  unfold s90 at hs
  split at hs
  · cases hs; exact ⟨Nat.le_of_ble_eq_true (by kernel_rfl), w90 _ _ hp⟩
  · cases hs
end Go.Proofs.AMT
set_option maxRecDepth 20000
namespace Go.Proofs.AMT
open Go.AM Go.AM.LN
attribute [local congr] bindO_congr bindS_congr bindG_congr awpOps_congr aOne_congr awp_congr aCond_congr awpD_congr dOne_congr keysB_congr nOne_congr thenP_congr blockP_congr Chk_congr Brk_congr
noncomputable def s81 : CSpec := fun ds => match ds with
  | [.v (.agg ⟨[.int .u64 b0, .int .u64 b1, .int .u64 b2, .int .u64 b3]⟩), .v (.int .i64 p), .v (.int .i64 n)] => some (((0 ≤ b0 ∧ b0 < 18446744073709551616) ∧ (0 ≤ b1 ∧ b1 < 18446744073709551616) ∧ (0 ≤ b2 ∧ b2 < 18446744073709551616) ∧ (0 ≤ b3 ∧ b3 < 18446744073709551616)) ∧ (0 ≤ p ∧ p ≤ 256) ∧ 0 ≤ n ∧ n ≤ 256, .one (.fresh .u64 (limbs ((V4 b0 b1 b2 b3) / 2 ^ p.toNat % 2 ^ n.toNat))))
  | _ => none
theorem s81_eq (b0 b1 b2 b3 : Int) (p : Int) (n : Int) : norm s81 [.v (.agg #[.int .u64 b0, .int .u64 b1, .int .u64 b2, .int .u64 b3]), .v (.int .i64 p), .v (.int .i64 n)] = some (((0 ≤ b0 ∧ b0 < 18446744073709551616) ∧ (0 ≤ b1 ∧ b1 < 18446744073709551616) ∧ (0 ≤ b2 ∧ b2 < 18446744073709551616) ∧ (0 ≤ b3 ∧ b3 < 18446744073709551616)) ∧ (0 ≤ p ∧ p ≤ 256) ∧ 0 ≤ n ∧ n ≤ 256, .one (.fresh .u64 (limbs ((V4 b0 b1 b2 b3) / 2 ^ p.toNat % 2 ^ n.toNat)))) := rfl
noncomputable def G81 : Gam := [(57, .body, norm s57), (86, .body, norm s86), (90, .body, norm s90)]
theorem G81_ok : GamOk Try.prog G81 := gamOk_cons sound_57 (gamOk_cons sound_86 (gamOk_cons sound_90 gamOk_nil))
theorem k81_57 : lk G81 57 = some (.body, norm s57) := rfl
theorem k81_86 : lk G81 86 = some (.body, norm s86) := rfl
theorem k81_90 : lk G81 90 = some (.body, norm s90) := rfl
set_option maxHeartbeats 20000000 in
theorem w81 (b0 b1 b2 b3 : Int) (p : Int) (n : Int) (hp : ((0 ≤ b0 ∧ b0 < 18446744073709551616) ∧ (0 ≤ b1 ∧ b1 < 18446744073709551616) ∧ (0 ≤ b2 ∧ b2 < 18446744073709551616) ∧ (0 ≤ b3 ∧ b3 < 18446744073709551616)) ∧ (0 ≤ p ∧ p ≤ 256) ∧ 0 ≤ n ∧ n ≤ 256) : awp ty G81 (code Try.f81) (retP ty Try.f81.results.toList (.one (.fresh .u64 (limbs ((V4 b0 b1 b2 b3) / 2 ^ p.toNat % 2 ^ n.toNat))))) (entry 0 [.v (.agg #[.int .u64 b0, .int .u64 b1, .int .u64 b2, .int .u64 b3]), .v (.int .i64 p), .v (.int .i64 n)]) [] := by
  unfold code
  simp only [Try.f81, Option.getD_some]
  have hV : val [b0, b1, b2, b3] = (V4 b0 b1 b2 b3) := rfl
  have l4 := lim4 hp.1.1 hp.1.2.1 hp.1.2.2.1 hp.1.2.2.2
  have vl : (V4 b0 b1 b2 b3) < 2 ^ 256 := V4_lt hp.1.1 hp.1.2.1 hp.1.2.2.1 hp.1.2.2.2
  all_goals repeat' (first
    | ((first
       | (with_reducible refine ops_k ?_; intro X hX)
       | (with_reducible refine opsN_k ?_; intro X hX)
       | (with_reducible show awp _ _ _ _ (keepL _ _) _)
       | with_reducible refine awp_cond_k ?_
       | (with_reducible refine Brk_i ?_ ?_ <;> intro hb <;> (try simp only [hb]) <;> have hq := hb <;> try simp only [decide_eq_true_eq, decide_eq_false_iff_not, gt_iff_lt, ge_iff_le, Int.not_lt, Int.not_le, beq_iff_eq, beq_eq_false_iff_ne, Bool.not_eq_true', Bool.not_eq_false', Bool.and_eq_true, Bool.or_eq_true, Bool.and_eq_false_imp, Bool.or_eq_false_iff, ne_eq, Classical.not_not] at hq)
       | with_reducible refine retP_ret_i ?_
       | with_reducible refine retP_normal_i ?_
       | (with_reducible (show bindG _ _ _ _ _); simp only [hall])) <;> try simp only [Go.AM.S1, Go.AM.S2, Go.AM.S3, Go.AM.S4, Go.AM.S5, Go.AM.S6, Go.AM.S7, Go.AM.S8, Go.AM.S9, Nat.reduceAdd, Nat.reduceMul, Nat.reduceSub, ↓reduceIte, Nat.reduceEqDiff, Nat.reduceLT, Nat.reduceLeDiff, reduceCtorEq, Int.reduceBEq, Int.reduceBNe, Nat.reduceBEq, Int.reduceEq, Int.reduceToNat, Int.reduceLE, Int.reduceLT, Nat.reduceDiv, Int.reduceAdd, Int.reduceSub, Int.reduceMul, Int.reduceNeg, Int.reduceGT, Int.reduceGE, Nat.reduceMod, k81_57, s57_eq, s57_nil1, k81_86, s86_eq, s86_nil1, k81_90, s90_eq, s90_nil1, s90_nil2, s90_nil3, ty_3, ty_26, ty_28, ty_42, hV, val_limbs, toInts])
    | (with_reducible refine hX _ _ ?_; clear hX X)
    | (with_reducible refine ops_nil_i ?_; try clear hall all)
    | (with_reducible refine opsN_nil_i ?_; try clear hall all)
    | (with_reducible refine hK _ _ ?_; clear hK K)
    | with_reducible refine thenP_normal_i ?_
    | (with_reducible refine zzr3 _ _ ?_; try clear zzr3 Kzzr3)
    | (with_reducible refine zzr2 _ _ ?_; try clear zzr2 Kzzr2)
    | (with_reducible refine zzr1 _ _ ?_; try clear zzr1 Kzzr1)
    | (with_reducible refine zzr0 _ _ ?_; try clear zzr0 Kzzr0)
    | (with_reducible refine awp_seq_l (a := .region 3 _ _) [6] ?_; intro Kzzr3 zzr3)
    | (with_reducible refine awp_seq_l (a := .region 2 _ _) [2, 7, 9] ?_; intro Kzzr2 zzr2)
    | (with_reducible refine awp_seq_l (a := .region 1 _ _) [2, 7] ?_; intro Kzzr1 zzr1)
    | (with_reducible refine awp_seq_l (a := .region 0 _ _) [1, 2, 3] ?_; intro Kzzr0 zzr0)
    | (with_reducible refine awp_seq_k ?_; intro K hK)
    | (with_reducible refine awp_region_a ?_; intro all hall K hK)
    | (with_reducible refine awp_draw_n ?_ ?_; kernel_rfl; intro all hall K hK)
    | (with_reducible refine Chk_i ?_ ?_)
    | (with_reducible refine keysC_i ?_; kernel_rfl)
    | (with_reducible first | refine awp_block_i ?_ | refine awp_skip_i ?_ | refine awp_ret_i ?_ | refine awp_exit_i ?_ | refine thenP_ret_i ?_ | refine thenP_exit_i ?_ | refine lpP_ret_i ?_ | refine lpP_exit_i ?_ | refine unrP_succ_i ?_ | refine unrP_ret_i ?_ | refine unrP_exit_i ?_ | refine blockP_normal_i ?_ | refine blockP_ret_i ?_)
    | (with_reducible refine blockP_exit_i ?_; simp only [↓reduceIte, Nat.reduceEqDiff])
    | with_reducible refine lpP_normal_i ?_)
  all_goals (try clear zzr0; try clear Kzzr0)
  all_goals (try clear zzr1; try clear Kzzr1)
  all_goals (try clear zzr2; try clear Kzzr2)
  all_goals (try clear zzr3; try clear Kzzr3)
  all_goals (have x4 := len4 (Nat.lt_of_le_of_lt (Nat.div_le_self (V4 b0 b1 b2 b3) (2 ^ p.toNat)) vl))
  all_goals generalize (V4 b0 b1 b2 b3) / 2 ^ p.toNat = X at *
  all_goals (have y4 := Nat.le_trans (len_mono (Nat.div_le_self X (2 ^ n.toNat))) x4)
  all_goals (obtain ⟨ms, md⟩ := @mod_sub X (2 ^ n.toNat))
  all_goals (have z4 := Nat.le_trans (len_mono ms) x4)
  · exact ⟨l4, by omega, by omega⟩
  · exact ⟨⟨lim_limbs _, by omega⟩, by omega, by omega⟩
  · exact ⟨⟨lim_limbs _, by omega⟩, by omega, by omega⟩
  · exact ⟨⟨⟨lim_limbs _, by omega⟩, lim_limbs _, by omega⟩, ms⟩
  · rw [md]
theorem sound_81 : Sound Try.prog 81 .body (norm s81) := by
  refine sound_norm (sound_body Try.func81 (show Try.f81.body = some (code Try.f81) from rfl) (by kernel_rfl) tysOk G81_ok (drawOk_ok (by kernel_rfl) tysOk G81_ok) (by kernel_rfl) fun ds p r hs hp => ?_)
  unfold s81 at hs
  split at hs
  · cases hs; exact ⟨Nat.le_of_ble_eq_true (by kernel_rfl), w81 _ _ _ _ _ _ hp⟩
  · cases hs
end Go.Proofs.AMT
set_option maxRecDepth 20000
namespace Go.Proofs.AMT
open Go.AM Go.AM.LN
attribute [local congr] bindO_congr bindS_congr bindG_congr awpOps_congr aOne_congr awp_congr aCond_congr awpD_congr dOne_congr keysB_congr nOne_congr thenP_congr blockP_congr Chk_congr Brk_congr
noncomputable def s52 : CSpec := fun ds => match ds with
  | [.v (.int .i64 n), .v (.agg ⟨[.int .i64 cl, .bool sg, .bool si, .int .i64 ex, .int .u64 c0, .int .u64 c1, .int .u64 c2, .int .u64 c3]⟩)] => some ((1 ≤ n ∧ n ≤ 6) ∧ ((0 ≤ c0 ∧ c0 < 18446744073709551616) ∧ (0 ≤ c1 ∧ c1 < 18446744073709551616) ∧ (0 ≤ c2 ∧ c2 < 18446744073709551616) ∧ (0 ≤ c3 ∧ c3 < 18446744073709551616)) ∧ isD n cl si (V4 c0 c1 c2 c3) ex, .many [.v (.agg #[.int .u64 (w4 (packS n cl sg si (V4 c0 c1 c2 c3) ex) 0), .int .u64 (w4 (packS n cl sg si (V4 c0 c1 c2 c3) ex) 1), .int .u64 (w4 (packS n cl sg si (V4 c0 c1 c2 c3) ex) 2), .int .u64 (w4 (packS n cl sg si (V4 c0 c1 c2 c3) ex) 3)]), .v (.int .i64 0)])
  | _ => none
theorem s52_eq (n : Int) (cl : Int) (sg : Bool) (si : Bool) (ex : Int) (c0 : Int) (c1 : Int) (c2 : Int) (c3 : Int) : norm s52 [.v (.int .i64 n), .v (.agg #[.int .i64 cl, .bool sg, .bool si, .int .i64 ex, .int .u64 c0, .int .u64 c1, .int .u64 c2, .int .u64 c3])] = some ((1 ≤ n ∧ n ≤ 6) ∧ ((0 ≤ c0 ∧ c0 < 18446744073709551616) ∧ (0 ≤ c1 ∧ c1 < 18446744073709551616) ∧ (0 ≤ c2 ∧ c2 < 18446744073709551616) ∧ (0 ≤ c3 ∧ c3 < 18446744073709551616)) ∧ isD n cl si (V4 c0 c1 c2 c3) ex, .many [.v (.agg #[.int .u64 (w4 (packS n cl sg si (V4 c0 c1 c2 c3) ex) 0), .int .u64 (w4 (packS n cl sg si (V4 c0 c1 c2 c3) ex) 1), .int .u64 (w4 (packS n cl sg si (V4 c0 c1 c2 c3) ex) 2), .int .u64 (w4 (packS n cl sg si (V4 c0 c1 c2 c3) ex) 3)]), .v (.int .i64 0)]) := rfl
noncomputable def G52 : Gam := [(29, .body, norm s29), (51, .body, norm s51), (56, .body, norm s56), (79, .body, norm s79), (80, .body, norm s80), (81, .body, norm s81)]
theorem G52_ok : GamOk Try.prog G52 := gamOk_cons sound_29 (gamOk_cons sound_51 (gamOk_cons sound_56 (gamOk_cons sound_79 (gamOk_cons sound_80 (gamOk_cons sound_81 gamOk_nil)))))
theorem k52_29 : lk G52 29 = some (.body, norm s29) := rfl
theorem k52_51 : lk G52 51 = some (.body, norm s51) := rfl
theorem k52_56 : lk G52 56 = some (.body, norm s56) := rfl
theorem k52_79 : lk G52 79 = some (.body, norm s79) := rfl
theorem k52_80 : lk G52 80 = some (.body, norm s80) := rfl
theorem k52_81 : lk G52 81 = some (.body, norm s81) := rfl
set_option maxHeartbeats 20000000 in
theorem w52 (n : Int) (cl : Int) (sg : Bool) (si : Bool) (ex : Int) (c0 : Int) (c1 : Int) (c2 : Int) (c3 : Int) (hp : (1 ≤ n ∧ n ≤ 6) ∧ ((0 ≤ c0 ∧ c0 < 18446744073709551616) ∧ (0 ≤ c1 ∧ c1 < 18446744073709551616) ∧ (0 ≤ c2 ∧ c2 < 18446744073709551616) ∧ (0 ≤ c3 ∧ c3 < 18446744073709551616)) ∧ isD n cl si (V4 c0 c1 c2 c3) ex) : awp ty G52 (code Try.f52) (retP ty Try.f52.results.toList (.many [.v (.agg #[.int .u64 (w4 (packS n cl sg si (V4 c0 c1 c2 c3) ex) 0), .int .u64 (w4 (packS n cl sg si (V4 c0 c1 c2 c3) ex) 1), .int .u64 (w4 (packS n cl sg si (V4 c0 c1 c2 c3) ex) 2), .int .u64 (w4 (packS n cl sg si (V4 c0 c1 c2 c3) ex) 3)]), .v (.int .i64 0)])) (entry 0 [.v (.int .i64 n), .v (.agg #[.int .i64 cl, .bool sg, .bool si, .int .i64 ex, .int .u64 c0, .int .u64 c1, .int .u64 c2, .int .u64 c3])]) [] := by
  unfold code
  simp only [Try.f52, Option.getD_some]
  obtain ⟨hn, hc, hd⟩ := hp
  obtain ⟨F1, F2, F3, F4, F5, F6, F7, F8, F9, F10, F11⟩ := bfmt hn
  have hV : val [c0, c1, c2, c3] = (V4 c0 c1 c2 c3) := rfl
  have l4 := lim4 hc.1 hc.2.1 hc.2.2.1 hc.2.2.2
  have hI := infoV_in (n := n) (by omega)
  have gk : (decide (n ≥ 1) && decide (n ≤ 6)) = true := by rw [decide_eq_true (by omega : n ≥ 1), decide_eq_true (by omega : n ≤ 6)]; rfl
  have hcv : fx n % 18446744073709551616 = fx n := by omega
  have hmin : min (fx n).toNat 64 = (fx n).toNat := by omega
  have hee : (2 : Int) ^ (fx n).toNat = ((2 ^ (fx n).toNat : Nat) : Int) := by simp
  have hE16 : 2 ^ (fx n).toNat ≤ 2 ^ 15 := Nat.pow_le_pow_right (by omega) (by omega)
  have hEp := Nat.two_pow_pos (fx n).toNat
  have p15 : (2 : Nat) ^ 15 = 32768 := rfl
  have hall : (1 * (2 : Int) ^ (fx n).toNat % 18446744073709551616 - 1) % 18446744073709551616 = ((2 ^ (fx n).toNat - 1 : Nat) : Int) := by rw [hee]; omega
  have eP : fp n - 1 - 1 = fp n - 2 := by omega
  have hlt := packS_lt (sg := sg) hn hd
  rcases Bool.eq_false_or_eq_true sg with gs | gs
  case' inl =>
    obtain ⟨S, hS'⟩ : ∃ S : Nat, (if sg then 2 ^ (fp n - 1 + fx n).toNat else 0) = S := ⟨_, rfl⟩
    have hS : V4 0 0 0 0 + 2 ^ (fp n - 1 + fx n).toNat = S := by rw [V4_x, Int.toNat_zero, Nat.zero_add, ← hS', if_pos gs]
  case' inr =>
    obtain ⟨S, hS'⟩ : ∃ S : Nat, (if sg then 2 ^ (fp n - 1 + fx n).toNat else 0) = S := ⟨_, rfl⟩
    have hS : V4 0 0 0 0 = S := by rw [V4_x, Int.toNat_zero, ← hS', if_neg (by rw [gs]; exact Bool.false_ne_true)]
  all_goals rcases hd with ⟨rfl, rfl, h1, h2, h3 | ⟨h3, h4⟩⟩ | ⟨rfl, rfl, h1, rfl⟩ | ⟨rfl, rfl, h1, h2⟩
  all_goals obtain ⟨Z, hZ⟩ : ∃ Z, 2 ^ (fp n - 1).toNat = Z := ⟨_, rfl⟩
  all_goals obtain ⟨E1, hE1⟩ : ∃ E1 : Nat, 2 ^ (fx n).toNat - 1 = E1 := ⟨_, rfl⟩
  all_goals obtain ⟨XX, hXX⟩ : ∃ XX, (V4 c0 c1 c2 c3) % Z = XX := ⟨_, rfl⟩
  all_goals rw [hE1] at hall
  all_goals have hE64 : E1 < 18446744073709551616 := by omega
  all_goals first
    | (have hT := packS_c1n (sg := sg) hn (.inl ⟨rfl, rfl, h1, h2, .inl h3⟩) h3
       rw [hT, hZ, hXX, hS'] at hlt ⊢
       obtain ⟨Ee, hEe⟩ : ∃ Ee, (ex - (2 - fe n - fp n) + 1).toNat = Ee := ⟨_, rfl⟩
       rw [hEe] at hlt ⊢
       rw [show XX + Ee * Z + S = S + XX + Ee * Z by omega] at hlt ⊢
       have gL : decide ((blen (V4 c0 c1 c2 c3) : Int) < fp n) = false := by simp only [decide_eq_false_iff_not]; omega
       have hex : (ex - (2 - fe n - fp n) + 1) % 18446744073709551616 = (Ee : Int) := by omega
       have hS4 := V4_w4 (n := S) (by omega)
       have hB1 := V4_w4 (n := S + XX) (by omega)
       have hB2 : decide ((4 : Int) ≥ 5) = false := rfl)
    | (have hT := packS_c1d (sg := sg) hn (.inl ⟨rfl, rfl, h1, h2, .inr ⟨h3, h4⟩⟩) h3
       rw [hT, hS'] at hlt ⊢
       rw [Nat.add_comm _ S] at hlt ⊢
       have gL : decide ((blen (V4 c0 c1 c2 c3) : Int) < fp n) = true := by simp only [decide_eq_true_eq]; omega
       have hex : decide ((4 : Int) ≥ 5) = false := rfl
       have hS4 := V4_w4 (n := S) (by omega)
       have hB1 : decide ((4 : Int) ≥ 5) = false := rfl
       have hB2 : decide ((4 : Int) ≥ 5) = false := rfl)
    | (have hT := packS_c2 (sg := sg) hn (.inr (.inl ⟨rfl, rfl, h1, rfl⟩))
       rw [hT, hZ, hE1, hS'] at hlt ⊢
       rw [Nat.add_comm _ S] at hlt ⊢
       have gL : decide ((4 : Int) ≥ 5) = false := rfl
       have hex : decide ((4 : Int) ≥ 5) = false := rfl
       have hS4 := V4_w4 (n := S) (by omega)
       have hB1 : decide ((4 : Int) ≥ 5) = false := rfl
       have hB2 : decide ((4 : Int) ≥ 5) = false := rfl)
    | (have hT := (packS_c3 (sg := sg) hn (.inr (.inr ⟨rfl, rfl, h1, h2⟩))).1
       rw [hT, hZ, hE1, hS'] at hlt ⊢
       have gL : decide ((4 : Int) ≥ 5) = false := rfl
       have hex : decide ((4 : Int) ≥ 5) = false := rfl
       have hS4 := V4_w4 (n := S) (by omega)
       have hB1 := V4_w4 (n := S + E1 * Z) (by omega)
       have hB2 := V4_w4 (n := S + E1 * Z + (V4 c0 c1 c2 c3)) (by omega))
  all_goals repeat' (first
    | ((first
       | (with_reducible refine ops_k ?_; intro X hX)
       | (with_reducible refine opsN_k ?_; intro X hX)
       | (with_reducible show awp _ _ _ _ (keepL _ _) _)
       | (with_reducible refine hX _ _ _ _ ?_; clear hX X)
       | (with_reducible refine opsD_k ?_; intro X hX)
       | with_reducible refine awp_cond_k ?_
       | (with_reducible refine Brk_i ?_ ?_ <;> intro hb <;> (try simp only [hb]) <;> have hq := hb <;> try simp only [decide_eq_true_eq, decide_eq_false_iff_not, gt_iff_lt, ge_iff_le, Int.not_lt, Int.not_le, beq_iff_eq, beq_eq_false_iff_ne, Bool.not_eq_true', Bool.not_eq_false', Bool.and_eq_true, Bool.or_eq_true, Bool.and_eq_false_imp, Bool.or_eq_false_iff, ne_eq, Classical.not_not] at hq)
       | with_reducible refine retP_ret_i ?_
       | with_reducible refine retP_normal_i ?_
       | (with_reducible (show bindG _ _ _ _ _); simp only [hall])) <;> try simp only [Go.AM.S1, Go.AM.S2, Go.AM.S3, Go.AM.S4, Go.AM.S5, Go.AM.S6, Go.AM.S7, Go.AM.S8, Go.AM.S9, Nat.reduceAdd, Nat.reduceMul, Nat.reduceSub, ↓reduceIte, Nat.reduceEqDiff, Nat.reduceLT, Nat.reduceLeDiff, reduceCtorEq, Int.reduceBEq, Int.reduceBNe, Nat.reduceBEq, Int.reduceEq, Int.reduceToNat, Int.reduceLE, Int.reduceLT, Nat.reduceDiv, Int.reduceAdd, Int.reduceSub, Int.reduceMul, Int.reduceNeg, Int.reduceGT, Int.reduceGE, Nat.reduceMod, k52_29, s29_eq, k52_51, s51_eq, k52_56, s56_eq, s56_nil1, k52_79, s79_eq, k52_80, s80_eq, s80_nil1, k52_81, s81_eq, ty_3, ty_4, ty_9, ty_26, ty_28, ty_42, ty_53, ty_72, ty_91, hV, hI, gk, infoT, toInts, sz_one, val_limbs, hcv, hmin, hall, IntKind.bits, gs, hS, hS4, gL, hex, hB1, hB2, hZ, hXX, Nat.pow_zero, Nat.mul_one, Nat.div_one, Int.toNat_one, eP, Nat.one_mul])
    | (with_reducible refine hX _ _ ?_; clear hX X)
    | (with_reducible refine opsD_nil_i ?_; try clear hall all)
    | (with_reducible refine keysB_i ?_; kernel_rfl)
    | ((with_reducible show clashK _ _ _ = true); kernel_rfl)
    | (with_reducible refine ops_nil_i ?_; try clear hall all)
    | (with_reducible refine opsN_nil_i ?_; try clear hall all)
    | (with_reducible refine hK _ _ ?_; clear hK K)
    | with_reducible refine thenP_normal_i ?_
    | (with_reducible refine zzr22 _ _ ?_; try clear zzr22 Kzzr22)
    | (with_reducible refine zzr21 _ _ ?_; try clear zzr21 Kzzr21)
    | (with_reducible refine zzsr19 _ _ ?_; try clear zzsr19 Kzzsr19)
    | (with_reducible refine zzr20 _ _ ?_; try clear zzr20 Kzzr20)
    | (with_reducible refine zzr19 _ _ ?_; try clear zzr19 Kzzr19)
    | (with_reducible refine zzsr11 _ _ ?_; try clear zzsr11 Kzzsr11)
    | (with_reducible refine zzr13 _ _ ?_; try clear zzr13 Kzzr13)
    | (with_reducible refine zzr18 _ _ ?_; try clear zzr18 Kzzr18)
    | (with_reducible refine zzsr16 _ _ ?_; try clear zzsr16 Kzzsr16)
    | (with_reducible refine zzr16 _ _ ?_; try clear zzr16 Kzzr16)
    | (with_reducible refine zzr15 _ _ ?_; try clear zzr15 Kzzr15)
    | (with_reducible refine zzr14 _ _ ?_; try clear zzr14 Kzzr14)
    | (with_reducible refine zzr12 _ _ ?_; try clear zzr12 Kzzr12)
    | (with_reducible refine zzr11 _ _ ?_; try clear zzr11 Kzzr11)
    | (with_reducible refine zzr10 _ _ ?_; try clear zzr10 Kzzr10)
    | (with_reducible refine zzsr8 _ _ ?_; try clear zzsr8 Kzzsr8)
    | (with_reducible refine zzr8 _ _ ?_; try clear zzr8 Kzzr8)
    | (with_reducible refine zzr7 _ _ ?_; try clear zzr7 Kzzr7)
    | (with_reducible refine zzr6 _ _ ?_; try clear zzr6 Kzzr6)
    | (with_reducible refine zzsr4 _ _ ?_; try clear zzsr4 Kzzsr4)
    | (with_reducible refine zzr5 _ _ ?_; try clear zzr5 Kzzr5)
    | (with_reducible refine zzr4 _ _ ?_; try clear zzr4 Kzzr4)
    | (with_reducible refine zzr3 _ _ ?_; try clear zzr3 Kzzr3)
    | (with_reducible refine zzsr1 _ _ ?_; try clear zzsr1 Kzzsr1)
    | (with_reducible refine zzr2 _ _ ?_; try clear zzr2 Kzzr2)
    | (with_reducible refine zzr1 _ _ ?_; try clear zzr1 Kzzr1)
    | (with_reducible refine zzr0 _ _ ?_; try clear zzr0 Kzzr0)
    | (with_reducible refine awp_seq_l (a := .region 22 _ _) [4, 5] ?_; intro Kzzr22 zzr22)
    | (with_reducible refine awp_seq_l (a := .region 21 _ _) [3, 4, 6, 8, 9] ?_; intro Kzzr21 zzr21)
    | (with_reducible refine awp_seq_l (a := .seq (.region 19 _ _) _) [3, 4, 6, 8, 9] ?_; intro Kzzsr19 zzsr19)
    | (with_reducible refine awp_seq_l (a := .region 20 _ _) [4, 5] ?_; intro Kzzr20 zzr20)
    | (with_reducible refine awp_seq_l (a := .region 19 _ _) [3, 4, 6, 8, 9, 74] ?_; intro Kzzr19 zzr19)
    | (with_reducible refine awp_seq_l (a := .seq (.region 11 _ _) _) [3, 4, 6, 8, 9] ?_; intro Kzzsr11 zzsr11)
    | (with_reducible refine awp_seq_l (a := .region 13 _ _) [4, 5] ?_; intro Kzzr13 zzr13)
    | (with_reducible refine awp_seq_l (a := .region 18 _ _) [4, 5] ?_; intro Kzzr18 zzr18)
    | (with_reducible refine awp_seq_l (a := .seq (.region 16 _ _) _) [4, 9] ?_; intro Kzzsr16 zzsr16)
    | (with_reducible refine awp_seq_l (a := .region 16 _ _) [4, 8, 9, 62] ?_; intro Kzzr16 zzr16)
    | (with_reducible refine awp_seq_l (a := .region 15 _ _) [3, 4, 8, 9] ?_; intro Kzzr15 zzr15)
    | (with_reducible refine awp_seq_l (a := .region 14 _ _) [3, 4, 6, 8, 9, 10, 51] ?_; intro Kzzr14 zzr14)
    | (with_reducible refine awp_seq_l (a := .region 12 _ _) [3, 4, 6, 8, 9, 10, 44, 45] ?_; intro Kzzr12 zzr12)
    | (with_reducible refine awp_seq_l (a := .region 11 _ _) [3, 4, 6, 8, 9, 10, 44] ?_; intro Kzzr11 zzr11)
    | (with_reducible refine awp_seq_l (a := .region 10 _ _) [3, 4, 6, 8, 9, 10] ?_; intro Kzzr10 zzr10)
    | (with_reducible refine awp_seq_l (a := .seq (.region 8 _ _) _) [3, 4, 6, 8, 9] ?_; intro Kzzsr8 zzsr8)
    | (with_reducible refine awp_seq_l (a := .region 8 _ _) [3, 4, 6, 8, 9, 29] ?_; intro Kzzr8 zzr8)
    | (with_reducible refine awp_seq_l (a := .region 7 _ _) [3, 4, 6, 8, 9] ?_; intro Kzzr7 zzr7)
    | (with_reducible refine awp_seq_l (a := .region 6 _ _) [3, 4, 6, 8] ?_; intro Kzzr6 zzr6)
    | (with_reducible refine awp_seq_l (a := .seq (.region 4 _ _) _) [3, 4, 6] ?_; intro Kzzsr4 zzsr4)
    | (with_reducible refine awp_seq_l (a := .region 5 _ _) [4, 5] ?_; intro Kzzr5 zzr5)
    | (with_reducible refine awp_seq_l (a := .region 4 _ _) [3, 4, 6, 23] ?_; intro Kzzr4 zzr4)
    | (with_reducible refine awp_seq_l (a := .region 3 _ _) [3, 4, 6] ?_; intro Kzzr3 zzr3)
    | (with_reducible refine awp_seq_l (a := .seq (.region 1 _ _) _) [0, 3, 4] ?_; intro Kzzsr1 zzsr1)
    | (with_reducible refine awp_seq_l (a := .region 2 _ _) [4, 5] ?_; intro Kzzr2 zzr2)
    | (with_reducible refine awp_seq_l (a := .region 1 _ _) [0, 3, 4, 13] ?_; intro Kzzr1 zzr1)
    | (with_reducible refine awp_seq_l (a := .region 0 _ _) [0, 3, 4] ?_; intro Kzzr0 zzr0)
    | (with_reducible refine awp_seq_k ?_; intro K hK)
    | (with_reducible refine awp_region_a ?_; intro all hall K hK)
    | (with_reducible refine awp_draw_a (id := 15) ?_ ?_; kernel_rfl; intro all hall K hK)
    | (with_reducible refine awp_draw_a (id := 20) ?_ ?_; kernel_rfl; intro all hall K hK)
    | (with_reducible refine awp_draw_a (id := 21) ?_ ?_; kernel_rfl; intro all hall K hK)
    | (with_reducible refine awp_draw_n ?_ ?_; kernel_rfl; intro all hall K hK)
    | (with_reducible refine Chk_i ?_ ?_)
    | (with_reducible refine keysC_i ?_; kernel_rfl)
    | (with_reducible first | refine awp_block_i ?_ | refine awp_skip_i ?_ | refine awp_ret_i ?_ | refine awp_exit_i ?_ | refine thenP_ret_i ?_ | refine thenP_exit_i ?_ | refine lpP_ret_i ?_ | refine lpP_exit_i ?_ | refine unrP_succ_i ?_ | refine unrP_ret_i ?_ | refine unrP_exit_i ?_ | refine blockP_normal_i ?_ | refine blockP_ret_i ?_)
    | (with_reducible refine blockP_exit_i ?_; simp only [↓reduceIte, Nat.reduceEqDiff])
    | with_reducible refine lpP_normal_i ?_)
  all_goals (try clear zzr0; try clear Kzzr0)
  all_goals (try clear zzr1; try clear Kzzr1)
  all_goals (try clear zzr2; try clear Kzzr2)
  all_goals (try clear zzsr1; try clear Kzzsr1)
  all_goals (try clear zzr3; try clear Kzzr3)
  all_goals (try clear zzr4; try clear Kzzr4)
  all_goals (try clear zzr5; try clear Kzzr5)
  all_goals (try clear zzsr4; try clear Kzzsr4)
  all_goals (try clear zzr6; try clear Kzzr6)
  all_goals (try clear zzr7; try clear Kzzr7)
  all_goals (try clear zzr8; try clear Kzzr8)
  all_goals (try clear zzsr8; try clear Kzzsr8)
  all_goals (try clear zzr10; try clear Kzzr10)
  all_goals (try clear zzr11; try clear Kzzr11)
  all_goals (try clear zzr12; try clear Kzzr12)
  all_goals (try clear zzr14; try clear Kzzr14)
  all_goals (try clear zzr15; try clear Kzzr15)
  all_goals (try clear zzr16; try clear Kzzr16)
  all_goals (try clear zzsr16; try clear Kzzsr16)
  all_goals (try clear zzr18; try clear Kzzr18)
  all_goals (try clear zzr13; try clear Kzzr13)
  all_goals (try clear zzsr11; try clear Kzzsr11)
  all_goals (try clear zzr19; try clear Kzzr19)
  all_goals (try clear zzr20; try clear Kzzr20)
  all_goals (try clear zzsr19; try clear Kzzsr19)
  all_goals (try clear zzr21; try clear Kzzr21)
  all_goals (try clear zzr22; try clear Kzzr22)
  all_goals clear hB1 hB2 hS4 hI gk hall
  all_goals (try simp only [inR])
  all_goals (have X4 : (limbs XX).length ≤ 4 := len4 (Nat.lt_of_le_of_lt (by rw [← hXX]; exact Nat.mod_le _ _) (V4_lt hc.1 hc.2.1 hc.2.2.1 hc.2.2.2)))
  all_goals first
    | omega
    | exact l4
    | exact ⟨hc, .inl ⟨h1, h2, .inl h3⟩⟩
    | exact ⟨hc, .inl ⟨h1, h2, .inr ⟨h3, h4⟩⟩⟩
    | exact ⟨hc, .inr (.inl h1)⟩
    | exact ⟨hc, .inr (.inr ⟨h1, h2⟩)⟩
    | exact ⟨lim_one ⟨by omega, by omega⟩, by omega, by omega⟩
    | exact ⟨hc, by omega, by omega⟩
    | exact ⟨hc, l4⟩
    | exact ⟨⟨w4_lim _ _, w4_lim _ _, w4_lim _ _, w4_lim _ _⟩, l4⟩
    | exact ⟨⟨w4_lim _ _, w4_lim _ _, w4_lim _ _, w4_lim _ _⟩, lim_one ⟨by omega, by omega⟩, by omega, by omega⟩
    | exact ⟨⟨w4_lim _ _, w4_lim _ _, w4_lim _ _, w4_lim _ _⟩, lim_limbs _, by omega⟩
    | exact ⟨lim_limbs _, by omega⟩
    | exact ⟨l4, by omega⟩
    | (rw [if_pos hq, show (V4 c0 c1 c2 c3) + 2 ^ (fp n - 2).toNat + E1 * Z + S = S + E1 * Z + (V4 c0 c1 c2 c3) + 2 ^ (fp n - 2).toNat by omega]; done)
    | (rw [if_neg (by rw [hq]; exact Bool.noConfusion), show (V4 c0 c1 c2 c3) + 0 + E1 * Z + S = S + E1 * Z + (V4 c0 c1 c2 c3) by omega]; done)
    | skip
theorem sound_52 : Sound Try.prog 52 .body (norm s52) := by
  refine sound_norm (sound_body Try.func52 (show Try.f52.body = some (code Try.f52) from rfl) (by kernel_rfl) tysOk G52_ok (drawOk_ok (by kernel_rfl) tysOk G52_ok) (by kernel_rfl) fun ds p r hs hp => ?_)
  unfold s52 at hs
  split at hs
  · cases hs; exact ⟨Nat.le_of_ble_eq_true (by kernel_rfl), w52 _ _ _ _ _ _ _ _ _ hp⟩
  · cases hs
end Go.Proofs.AMT
set_option maxRecDepth 20000
namespace Go.Proofs.AMT
open Go.AM Go.AM.LN
attribute [local congr] bindO_congr bindS_congr bindG_congr awpOps_congr aOne_congr awp_congr aCond_congr awpD_congr dOne_congr keysB_congr nOne_congr thenP_congr blockP_congr Chk_congr Brk_congr
noncomputable def s82 : CSpec := fun ds => match ds with
  | [.sl .u64 a, .sl .u64 b] => some ((lim a ∧ a.length ≤ 40000000) ∧ lim b ∧ b.length ≤ 40000000, .one (.fresh .u64 (limbs (val a * val b))))
  | _ => none
theorem s82_eq (a : List Int) (b : List Int) : norm s82 [.sl .u64 a, .sl .u64 b] = some ((lim a ∧ a.length ≤ 40000000) ∧ lim b ∧ b.length ≤ 40000000, .one (.fresh .u64 (limbs (val a * val b)))) := rfl
theorem s82_nil1  (b : List Int) : norm s82 [.v (.slice none 0 0), .sl .u64 b] = some ((lim ([] : List Int) ∧ ([] : List Int).length ≤ 40000000) ∧ lim b ∧ b.length ≤ 40000000, .one (.fresh .u64 (limbs (val ([] : List Int) * val b)))) := rfl
theorem s82_nil2 (a : List Int)  : norm s82 [.sl .u64 a, .v (.slice none 0 0)] = some ((lim a ∧ a.length ≤ 40000000) ∧ lim ([] : List Int) ∧ ([] : List Int).length ≤ 40000000, .one (.fresh .u64 (limbs (val a * val ([] : List Int))))) := rfl
theorem s82_nil3   : norm s82 [.v (.slice none 0 0), .v (.slice none 0 0)] = some ((lim ([] : List Int) ∧ ([] : List Int).length ≤ 40000000) ∧ lim ([] : List Int) ∧ ([] : List Int).length ≤ 40000000, .one (.fresh .u64 (limbs (val ([] : List Int) * val ([] : List Int))))) := rfl
noncomputable def G82 : Gam := [(33, .body, norm s33), (99, .ext, sAdd64), (100, .body, norm s100)]
theorem G82_ok : GamOk Try.prog G82 := gamOk_cons sound_33 (gamOk_cons ext_99 (gamOk_cons sound_100 gamOk_nil))
theorem k82_33 : lk G82 33 = some (.body, norm s33) := rfl
theorem k82_99 : lk G82 99 = some (.ext, sAdd64) := rfl
theorem k82_100 : lk G82 100 = some (.body, norm s100) := rfl
set_option maxHeartbeats 20000000 in
theorem w82 (a : List Int) (b : List Int) (hp : (lim a ∧ a.length ≤ 40000000) ∧ lim b ∧ b.length ≤ 40000000) : awp ty G82 (code Try.f82) (retP ty Try.f82.results.toList (.one (.fresh .u64 (limbs (val a * val b))))) (entry 0 [.sl .u64 a, .sl .u64 b]) [] := by
  unfold code
  simp only [Try.f82, Option.getD_some]
  obtain ⟨N, hN⟩ : ∃ N, a.length + b.length + 1 = N := ⟨_, rfl⟩
  have lenE : ((a.length : Int) + (b.length : Int) + 1).toNat = N := by omega
  all_goals repeat' (first
    | ((first
       | (with_reducible refine ops_k ?_; intro X hX)
       | (with_reducible refine opsN_k ?_; intro X hX)
       | (with_reducible show awp _ _ _ _ (keepL _ _) _)
       | with_reducible refine awp_cond_k ?_
       | (with_reducible refine Brk_i ?_ ?_ <;> intro hb <;> (try simp only [hb]) <;> have hq := hb <;> try simp only [decide_eq_true_eq, decide_eq_false_iff_not, gt_iff_lt, ge_iff_le, Int.not_lt, Int.not_le, beq_iff_eq, beq_eq_false_iff_ne, Bool.not_eq_true', Bool.not_eq_false', Bool.and_eq_true, Bool.or_eq_true, Bool.and_eq_false_imp, Bool.or_eq_false_iff, ne_eq, Classical.not_not] at hq)
       | with_reducible refine retP_ret_i ?_
       | with_reducible refine retP_normal_i ?_
       | (with_reducible (show bindG _ _ _ _ _); simp only [hall])) <;> try simp only [Go.AM.S1, Go.AM.S2, Go.AM.S3, Go.AM.S4, Go.AM.S5, Go.AM.S6, Go.AM.S7, Go.AM.S8, Go.AM.S9, Nat.reduceAdd, Nat.reduceMul, Nat.reduceSub, ↓reduceIte, Nat.reduceEqDiff, Nat.reduceLT, Nat.reduceLeDiff, reduceCtorEq, Int.reduceBEq, Int.reduceBNe, Nat.reduceBEq, Int.reduceEq, Int.reduceToNat, Int.reduceLE, Int.reduceLT, Nat.reduceDiv, Int.reduceAdd, Int.reduceSub, Int.reduceMul, Int.reduceNeg, Int.reduceGT, Int.reduceGE, Nat.reduceMod, k82_33, s33_eq, s33_nil1, k82_99, sAdd64_eq, k82_100, s100_eq, ty_3, ty_26, ty_42, List.length_replicate, lenE])
    | (with_reducible refine hX _ _ ?_; clear hX X)
    | (with_reducible refine ops_nil_i ?_; try clear hall all)
    | (with_reducible refine opsN_nil_i ?_; try clear hall all)
    | (with_reducible refine hK _ _ ?_; clear hK K)
    | with_reducible refine thenP_normal_i ?_
    | (with_reducible refine zzr18 _ _ ?_; try clear zzr18 Kzzr18)
    | (with_reducible refine zzsr2 _ _ ?_; try clear zzsr2 Kzzsr2)
    | (with_reducible refine zzb1 _ _ ?_; try clear zzb1 Kzzb1)
    | (with_reducible refine zzsr6 _ _ ?_; try clear zzsr6 Kzzsr6)
    | (with_reducible refine zzb3 _ _ ?_; try clear zzb3 Kzzb3)
    | (with_reducible refine zzr13 _ _ ?_; try clear zzr13 Kzzr13)
    | (with_reducible refine zzr12 _ _ ?_; try clear zzr12 Kzzr12)
    | (with_reducible refine zzr11 _ _ ?_; try clear zzr11 Kzzr11)
    | (with_reducible refine zzr10 _ _ ?_; try clear zzr10 Kzzr10)
    | (with_reducible refine zzr9 _ _ ?_; try clear zzr9 Kzzr9)
    | (with_reducible refine zzr8 _ _ ?_; try clear zzr8 Kzzr8)
    | (with_reducible refine zzctmp28 _ _ ?_; try clear zzctmp28 Kzzctmp28)
    | (with_reducible refine zzr7 _ _ ?_; try clear zzr7 Kzzr7)
    | (with_reducible refine zzr6 _ _ ?_; try clear zzr6 Kzzr6)
    | (with_reducible refine zzr5 _ _ ?_; try clear zzr5 Kzzr5)
    | (with_reducible refine zzr4 _ _ ?_; try clear zzr4 Kzzr4)
    | (with_reducible refine zzctmp23 _ _ ?_; try clear zzctmp23 Kzzctmp23)
    | (with_reducible refine zzr3 _ _ ?_; try clear zzr3 Kzzr3)
    | (with_reducible refine zzr2 _ _ ?_; try clear zzr2 Kzzr2)
    | (with_reducible refine zzr1 _ _ ?_; try clear zzr1 Kzzr1)
    | (with_reducible refine zzr0 _ _ ?_; try clear zzr0 Kzzr0)
    | (with_reducible refine awp_lp (c := .seq (.region 3 _ _) _) (σ := Nat × List Int) (fun s => (s.1 ≤ a.length ∧ s.2.length = N) ∧ lim s.2 ∧ val s.2 = val (a.take s.1) * val b) (fun s => [(0, .rd .u64 a), (1, .rd .u64 b), (5, .ow 304), (21, .v (.int .i64 a.length)), (22, .v (.int .i64 s.1))]) (fun s => [(304, .ints .u64 s.2, false)]) (fun s => a.length - s.1) (0, List.replicate N 0) ?_ ?_ (fun s hs => ?_))
    | (with_reducible refine awp_lp (c := .seq (.region 7 _ _) _) (σ := Nat × Nat × List Int) (fun z => (z.1 ≤ b.length ∧ z.2.1 < 18446744073709551616 ∧ z.2.2.length = N) ∧ lim z.2.2 ∧ z.2.2.getD (s.1 + b.length) 0 = 0 ∧ val z.2.2 + z.2.1 * 2 ^ (64 * (s.1 + z.1)) = val (a.take s.1) * val b + (a.getD s.1 0).toNat * 2 ^ (64 * s.1) * val (b.take z.1)) (fun z => [(0, .rd .u64 a), (1, .rd .u64 b), (5, .ow 304), (6, .v (.int .i64 s.1)), (7, .v (.int .u64 z.2.1)), (21, .v (.int .i64 a.length)), (22, .v (.int .i64 s.1)), (26, .v (.int .i64 b.length)), (27, .v (.int .i64 z.1))]) (fun z => [(304, .ints .u64 z.2.2, false)]) (fun z => b.length - z.1) (0, 0, s.2) ?_ ?_ (fun z hz => ?_))
    | (with_reducible refine awp_seq_l (a := .region 18 _ _) [4] ?_; intro Kzzr18 zzr18)
    | (with_reducible refine awp_seq_l (a := .seq (.region 2 _ _) _) [5] ?_; intro Kzzsr2 zzsr2)
    | (with_reducible refine awp_seq_l (a := .block 1 _) [0, 1, 5, 21, 22] ?_; intro Kzzb1 zzb1)
    | (with_reducible refine awp_seq_l (a := .seq (.region 6 _ _) _) [0, 1, 5, 6, 7, 21, 22] ?_; intro Kzzsr6 zzsr6)
    | (with_reducible refine awp_seq_l (a := .block 3 _) [0, 1, 5, 6, 7, 21, 22, 26, 27] ?_; intro Kzzb3 zzb3)
    | (with_reducible refine awp_seq_l (a := .region 13 _ _) [0, 1, 5, 6, 8, 9, 11, 21, 22, 26, 27] ?_; intro Kzzr13 zzr13)
    | (with_reducible refine awp_seq_l (a := .region 12 _ _) [0, 1, 5, 6, 8, 9, 11, 12, 21, 22, 26, 27] ?_; intro Kzzr12 zzr12)
    | (with_reducible refine awp_seq_l (a := .region 11 _ _) [0, 1, 5, 6, 7, 8, 9, 11, 21, 22, 26, 27] ?_; intro Kzzr11 zzr11)
    | (with_reducible refine awp_seq_l (a := .region 10 _ _) [0, 1, 5, 6, 7, 8, 9, 11, 12, 21, 22, 26, 27] ?_; intro Kzzr10 zzr10)
    | (with_reducible refine awp_seq_l (a := .region 9 _ _) [0, 1, 5, 6, 7, 8, 9, 10, 21, 22, 26, 27] ?_; intro Kzzr9 zzr9)
    | (with_reducible refine awp_seq_l (a := .region 8 _ _) [0, 1, 5, 6, 7, 8, 21, 22, 26, 27] ?_; intro Kzzr8 zzr8)
    | (with_reducible refine awp_seq_l (a := .cond (.tmp 28) _ _) [0, 1, 5, 6, 7, 21, 22, 26, 27] ?_; intro Kzzctmp28 zzctmp28)
    | (with_reducible refine awp_seq_l (a := .region 7 _ _) [0, 1, 5, 6, 7, 21, 22, 26, 27, 28] ?_; intro Kzzr7 zzr7)
    | (with_reducible refine awp_seq_l (a := .region 6 _ _) [0, 1, 5, 6, 7, 21, 22, 26, 27] ?_; intro Kzzr6 zzr6)
    | (with_reducible refine awp_seq_l (a := .region 5 _ _) [0, 1, 5, 6, 7, 21, 22] ?_; intro Kzzr5 zzr5)
    | (with_reducible refine awp_seq_l (a := .region 4 _ _) [0, 1, 5, 6, 21, 22] ?_; intro Kzzr4 zzr4)
    | (with_reducible refine awp_seq_l (a := .cond (.tmp 23) _ _) [0, 1, 5, 21, 22] ?_; intro Kzzctmp23 zzctmp23)
    | (with_reducible refine awp_seq_l (a := .region 3 _ _) [0, 1, 5, 21, 22, 23] ?_; intro Kzzr3 zzr3)
    | (with_reducible refine awp_seq_l (a := .region 2 _ _) [0, 1, 5, 21, 22] ?_; intro Kzzr2 zzr2)
    | (with_reducible refine awp_seq_l (a := .region 1 _ _) [0, 1, 5] ?_; intro Kzzr1 zzr1)
    | (with_reducible refine awp_seq_l (a := .region 0 _ _) [0, 1] ?_; intro Kzzr0 zzr0)
    | (with_reducible refine awp_seq_k ?_; intro K hK)
    | (with_reducible refine awp_region_a ?_; intro all hall K hK)
    | (with_reducible refine awp_draw_n ?_ ?_; kernel_rfl; intro all hall K hK)
    | (with_reducible refine Chk_i ?_ ?_)
    | (with_reducible refine keysC_i ?_; kernel_rfl)
    | (with_reducible first | refine awp_block_i ?_ | refine awp_skip_i ?_ | refine awp_ret_i ?_ | refine awp_exit_i ?_ | refine thenP_ret_i ?_ | refine thenP_exit_i ?_ | refine lpP_ret_i ?_ | refine lpP_exit_i ?_ | refine unrP_succ_i ?_ | refine unrP_ret_i ?_ | refine unrP_exit_i ?_ | refine blockP_normal_i ?_ | refine blockP_ret_i ?_)
    | (with_reducible refine blockP_exit_i ?_; simp only [↓reduceIte, Nat.reduceEqDiff])
    | with_reducible refine lpP_normal_i ?_)
  all_goals (try clear zzr0; try clear Kzzr0)
  all_goals (try clear zzr1; try clear Kzzr1)
  all_goals (try clear zzr2; try clear Kzzr2)
  all_goals (try clear zzr3; try clear Kzzr3)
  all_goals (try clear zzctmp23; try clear Kzzctmp23)
  all_goals (try clear zzr4; try clear Kzzr4)
  all_goals (try clear zzr5; try clear Kzzr5)
  all_goals (try clear zzr6; try clear Kzzr6)
  all_goals (try clear zzr7; try clear Kzzr7)
  all_goals (try clear zzctmp28; try clear Kzzctmp28)
  all_goals (try clear zzr8; try clear Kzzr8)
  all_goals (try clear zzr9; try clear Kzzr9)
  all_goals (try clear zzr10; try clear Kzzr10)
  all_goals (try clear zzr11; try clear Kzzr11)
  all_goals (try clear zzr12; try clear Kzzr12)
  all_goals (try clear zzr13; try clear Kzzr13)
  all_goals (try clear zzb3; try clear Kzzb3)
  all_goals (try clear zzsr6; try clear Kzzsr6)
  all_goals (try clear zzb1; try clear Kzzb1)
  all_goals (try clear zzsr2; try clear Kzzsr2)
  all_goals (try clear zzr18; try clear Kzzr18)
  all_goals clear lenE
  all_goals (try simp only [inR])
  all_goals (try (rcases z with ⟨k, c, o2⟩))
  all_goals (try (rcases s with ⟨i, o⟩))
  all_goals (try (obtain ⟨zz, hz⟩ := hz))
  all_goals (try (obtain ⟨ss, hs⟩ := hs))
  all_goals (try dsimp only at *)
  all_goals (try omega)
  · exact ⟨⟨Nat.zero_le _, by simp⟩, lim_rep _, by simp [val_rep, val]⟩
  · exact Ent.refl _ _
  · exact ⟨⟨Nat.zero_le _, by omega, by omega⟩, hs.1, getD_zero_of_lt hs.1 (by rw [hs.2]; exact prod_lt hp.1.1 hp.2.1 i), by rw [hs.2]; simp [val]⟩
  · exact Ent.refl _ _
  · exact ⟨lim_get hp.1.1, lim_get hp.2.1⟩
  · have e : ((i : Int) + (k : Int)).toNat = i + k := by omega
    have h1 := lim_get hz.1 (i := i + k)
    rw [e]
    omega
  · have e : ((i : Int) + (k : Int)).toNat = i + k := by omega
    have h1 := lim_get hz.1 (i := i + k)
    rw [e]
    have h2 := lim_get hp.1.1 (i := i)
    have h3 := lim_get hp.2.1 (i := k)
    obtain ⟨c', s', e1, e2, e3, e4, e5⟩ := mul_word' (prod_le (x := (a.getD i 0).toNat) (y := (b.getD k 0).toNat) (by omega) (by omega)) (c := (c : Int)) ⟨by omega, by omega⟩ h1
    rw [e1, e2]
    rw [Int.toNat_natCast] at e3
    exact ⟨(k + 1, c', o2.set (i + k) (s' : Int)), (by (refine ent_ok [(304, 304)] rfl ?_ ?_ <;> simp only [memLe, slotsLe, AvLe, lk, ↓reduceIte, Nat.reduceEqDiff, Option.isSome_some, and_self, and_true, true_and, reduceCtorEq, List.map_nil, List.map_cons, Option.some.injEq, AV.v.injEq, Value.int.injEq, Value.bool.injEq, AV.rd.injEq, AV.ow.injEq, AV.al.injEq, AV.ref.injEq] <;> omega)), ⟨⟨by dsimp only; omega, e4, by simp; omega⟩, lim_set hz.1 (nat_lim e5) _, by rw [getD_set_other (by omega)]; exact hz.2.1, mul_step (by omega) hz.2.2 e3⟩, by dsimp only; omega⟩
  · have e : ((i : Int) + (b.length : Int)).toNat = i + b.length := by omega
    rw [e]
    have hk : k = b.length := by omega
    have h5 := hz.2.2
    rw [hk, List.take_length] at h5
    exact ⟨(i + 1, o2.set (i + b.length) (c : Int)), (by (refine ent_ok [(304, 304)] rfl ?_ ?_ <;> simp only [memLe, slotsLe, AvLe, lk, ↓reduceIte, Nat.reduceEqDiff, Option.isSome_some, and_self, and_true, true_and, reduceCtorEq, List.map_nil, List.map_cons, Option.some.injEq, AV.v.injEq, Value.int.injEq, Value.bool.injEq, AV.rd.injEq, AV.ow.injEq, AV.al.injEq, AV.ref.injEq] <;> omega)), ⟨⟨by dsimp only; omega, by simp; omega⟩, lim_set hz.1 (nat_lim (by omega)) _, mul_row (by omega) hz.2.1 h5⟩, by dsimp only; omega⟩
  · exact ⟨hs.1, by omega⟩
  · have hi : i = a.length := by omega
    rw [hs.2, hi, List.take_length]
theorem sound_82 : Sound Try.prog 82 .body (norm s82) := by
  refine sound_norm (sound_body Try.func82 (show Try.f82.body = some (code Try.f82) from rfl) (by kernel_rfl) tysOk G82_ok (drawOk_ok (by kernel_rfl) tysOk G82_ok) (by kernel_rfl) fun ds p r hs hp => ?_)
  unfold s82 at hs
  split at hs
  · cases hs; exact ⟨Nat.le_of_ble_eq_true (by kernel_rfl), w82 _ _ hp⟩
  · cases hs
end Go.Proofs.AMT
set_option maxRecDepth 20000
namespace Go.Proofs.AMT
open Go.AM Go.AM.LN
attribute [local congr] bindO_congr bindS_congr bindG_congr awpOps_congr aOne_congr awp_congr aCond_congr awpD_congr dOne_congr keysB_congr nOne_congr thenP_congr blockP_congr Chk_congr Brk_congr
noncomputable def s91 : CSpec := fun ds => match ds with
  | [.v (.int .u64 b), .v (.int .i64 n)] => some ((0 < b ∧ b < 18446744073709551616) ∧ 0 ≤ n ∧ n ≤ 1000000, .one (.view .u64 (limbs (b.toNat ^ n.toNat))))
  | _ => none
theorem s91_eq (b : Int) (n : Int) : norm s91 [.v (.int .u64 b), .v (.int .i64 n)] = some ((0 < b ∧ b < 18446744073709551616) ∧ 0 ≤ n ∧ n ≤ 1000000, .one (.view .u64 (limbs (b.toNat ^ n.toNat)))) := rfl
noncomputable def G91 : Gam := [(82, .body, norm s82)]
theorem G91_ok : GamOk Try.prog G91 := gamOk_cons sound_82 gamOk_nil
theorem k91_82 : lk G91 82 = some (.body, norm s82) := rfl
set_option maxHeartbeats 20000000 in
theorem w91 (b : Int) (n : Int) (hp : (0 < b ∧ b < 18446744073709551616) ∧ 0 ≤ n ∧ n ≤ 1000000) : awp ty G91 (code Try.f91) (retP ty Try.f91.results.toList (.one (.view .u64 (limbs (b.toNat ^ n.toNat))))) (entry 0 [.v (.int .u64 b), .v (.int .i64 n)]) [] := by
  unfold code
  simp only [Try.f91, Option.getD_some]
  obtain ⟨B, rfl⟩ := Int.eq_ofNat_of_zero_le (show 0 ≤ b by omega)
  obtain ⟨N, rfl⟩ := Int.eq_ofNat_of_zero_le hp.2.1
  have hmr : ∀ m : Nat, (m : Int).tmod 2 = ((m % 2 : Nat) : Int) := fun m => by rw [Int.tmod_eq_emod_of_nonneg (by omega)]; omega
  have hmq : ∀ m : Nat, (m : Int).tdiv 2 = ((m / 2 : Nat) : Int) := fun m => by rw [Int.tdiv_eq_ediv_of_nonneg (by omega)]; omega
  have l1 : limbs 1 = [1] := limbs_of_lt (by omega) (by omega)
  have lb : limbs B = [(B : Int)] := limbs_of_lt (by omega) (by omega)
  have hBN : 0 < B ^ N := Nat.pow_pos (by omega)
  have hlen := pw_len (b := B) (n := N) (by omega)
  have e1 : ((B : Int)).toNat = B := Int.toNat_natCast B
  have e2 : ((N : Int)).toNat = N := Int.toNat_natCast N
  all_goals repeat' (first
    | ((first
       | (with_reducible refine ops_k ?_; intro X hX)
       | (with_reducible refine opsN_k ?_; intro X hX)
       | (with_reducible show awp _ _ _ _ (keepL _ _) _)
       | with_reducible refine awp_cond_k ?_
       | (with_reducible refine Brk_i ?_ ?_ <;> intro hb <;> (try simp only [hb]) <;> have hq := hb <;> try simp only [decide_eq_true_eq, decide_eq_false_iff_not, gt_iff_lt, ge_iff_le, Int.not_lt, Int.not_le, beq_iff_eq, beq_eq_false_iff_ne, Bool.not_eq_true', Bool.not_eq_false', Bool.and_eq_true, Bool.or_eq_true, Bool.and_eq_false_imp, Bool.or_eq_false_iff, ne_eq, Classical.not_not] at hq)
       | with_reducible refine retP_ret_i ?_
       | with_reducible refine retP_normal_i ?_
       | (with_reducible (show bindG _ _ _ _ _); simp only [hall])) <;> try simp only [Go.AM.S1, Go.AM.S2, Go.AM.S3, Go.AM.S4, Go.AM.S5, Go.AM.S6, Go.AM.S7, Go.AM.S8, Go.AM.S9, Nat.reduceAdd, Nat.reduceMul, Nat.reduceSub, ↓reduceIte, Nat.reduceEqDiff, Nat.reduceLT, Nat.reduceLeDiff, reduceCtorEq, Int.reduceBEq, Int.reduceBNe, Nat.reduceBEq, Int.reduceEq, Int.reduceToNat, Int.reduceLE, Int.reduceLT, Nat.reduceDiv, Int.reduceAdd, Int.reduceSub, Int.reduceMul, Int.reduceNeg, Int.reduceGT, Int.reduceGE, Nat.reduceMod, k91_82, s82_eq, s82_nil1, s82_nil2, s82_nil3, ty_3, ty_26, ty_42, toInts, hmr, hmq, val_limbs])
    | (with_reducible refine hX _ _ ?_; clear hX X)
    | (with_reducible refine ops_nil_i ?_; try clear hall all)
    | (with_reducible refine opsN_nil_i ?_; try clear hall all)
    | (with_reducible refine hK _ _ ?_; clear hK K)
    | with_reducible refine thenP_normal_i ?_
    | (with_reducible refine zzr8 _ _ ?_; try clear zzr8 Kzzr8)
    | (with_reducible refine zzb0 _ _ ?_; try clear zzb0 Kzzb0)
    | (with_reducible refine zzr6 _ _ ?_; try clear zzr6 Kzzr6)
    | (with_reducible refine zzr5 _ _ ?_; try clear zzr5 Kzzr5)
    | (with_reducible refine zzsr3 _ _ ?_; try clear zzsr3 Kzzsr3)
    | (with_reducible refine zzr3 _ _ ?_; try clear zzr3 Kzzr3)
    | (with_reducible refine zzsr2 _ _ ?_; try clear zzsr2 Kzzsr2)
    | (with_reducible refine zzr2 _ _ ?_; try clear zzr2 Kzzr2)
    | (with_reducible refine zzr1 _ _ ?_; try clear zzr1 Kzzr1)
    | (with_reducible refine zzr0 _ _ ?_; try clear zzr0 Kzzr0)
    | (with_reducible refine awp_lp (c := .seq (.seq (.region 2 _ _) _) _) (σ := Nat × Nat × Nat) (fun s => s.1 ≤ N ∧ s.2.1 * s.2.2 ^ s.1 = B ^ N) (fun s => [(1, .v (.int .i64 s.1)), (5, .rd .u64 (limbs s.2.1)), (6, .rd .u64 (limbs s.2.2))]) (fun s => []) (fun s => s.1) (N, 1, B) ?_ ?_ (fun s hs => ?_))
    | (with_reducible refine awp_seq_l (a := .region 8 _ _) [4] ?_; intro Kzzr8 zzr8)
    | (with_reducible refine awp_seq_l (a := .block 0 _) [5] ?_; intro Kzzb0 zzb0)
    | (with_reducible refine awp_seq_l (a := .region 6 _ _) [1, 5, 6, 21] ?_; intro Kzzr6 zzr6)
    | (with_reducible refine awp_seq_l (a := .region 5 _ _) [1, 5, 6] ?_; intro Kzzr5 zzr5)
    | (with_reducible refine awp_seq_l (a := .seq (.region 3 _ _) _) [1, 5, 6] ?_; intro Kzzsr3 zzsr3)
    | (with_reducible refine awp_seq_l (a := .region 3 _ _) [1, 5, 6, 14] ?_; intro Kzzr3 zzr3)
    | (with_reducible refine awp_seq_l (a := .seq (.region 2 _ _) _) [1, 5, 6] ?_; intro Kzzsr2 zzsr2)
    | (with_reducible refine awp_seq_l (a := .region 2 _ _) [1, 5, 6, 11] ?_; intro Kzzr2 zzr2)
    | (with_reducible refine awp_seq_l (a := .region 1 _ _) [1, 5, 6] ?_; intro Kzzr1 zzr1)
    | (with_reducible refine awp_seq_l (a := .region 0 _ _) [0, 1] ?_; intro Kzzr0 zzr0)
    | (with_reducible refine awp_seq_k ?_; intro K hK)
    | (with_reducible refine awp_region_a ?_; intro all hall K hK)
    | (with_reducible refine awp_draw_n ?_ ?_; kernel_rfl; intro all hall K hK)
    | (with_reducible refine Chk_i ?_ ?_)
    | (with_reducible refine keysC_i ?_; kernel_rfl)
    | (with_reducible first | refine awp_block_i ?_ | refine awp_skip_i ?_ | refine awp_ret_i ?_ | refine awp_exit_i ?_ | refine thenP_ret_i ?_ | refine thenP_exit_i ?_ | refine lpP_ret_i ?_ | refine lpP_exit_i ?_ | refine unrP_succ_i ?_ | refine unrP_ret_i ?_ | refine unrP_exit_i ?_ | refine blockP_normal_i ?_ | refine blockP_ret_i ?_)
    | (with_reducible refine blockP_exit_i ?_; simp only [↓reduceIte, Nat.reduceEqDiff])
    | with_reducible refine lpP_normal_i ?_)
  all_goals (try clear zzr0; try clear Kzzr0)
  all_goals (try clear zzr1; try clear Kzzr1)
  all_goals (try clear zzr2; try clear Kzzr2)
  all_goals (try clear zzsr2; try clear Kzzsr2)
  all_goals (try clear zzr3; try clear Kzzr3)
  all_goals (try clear zzsr3; try clear Kzzsr3)
  all_goals (try clear zzr5; try clear Kzzr5)
  all_goals (try clear zzr6; try clear Kzzr6)
  all_goals (try clear zzb0; try clear Kzzb0)
  all_goals (try clear zzr8; try clear Kzzr8)
  all_goals clear hmr hmq
  all_goals (try simp only [inR])
  all_goals (try (rcases s with ⟨m, x, y⟩))
  all_goals (try dsimp only at *)
  · exact ⟨Nat.le_refl _, by rw [Nat.one_mul]⟩
  · rw [l1, lb]; (refine ent_ok [] rfl ?_ ?_ <;> simp only [memLe, slotsLe, AvLe, lk, ↓reduceIte, Nat.reduceEqDiff, Option.isSome_some, List.contains_cons, List.contains_nil, Bool.or_false, Nat.reduceBEq, and_self, and_true, true_and, reduceCtorEq, List.map_nil, List.map_cons, Option.some.injEq, AV.v.injEq, Value.int.injEq, Value.bool.injEq, AV.rd.injEq, AV.ow.injEq, AV.al.injEq, AV.ref.injEq] <;> (first | omega | (refine ⟨?_, ?_, ?_⟩ <;> omega)))
  · obtain ⟨hx, hy, hx0, hy0⟩ := pw_le hs.2 hBN (by omega)
    have xl := len_mono hx
    have yl := len_mono hy
    exact ⟨⟨lim_limbs _, by omega⟩, lim_limbs _, by omega⟩
  · omega
  · obtain ⟨hx, hy, hx0, hy0⟩ := pw_le hs.2 hBN (by omega)
    have yl := len_mono hy
    exact ⟨lim_limbs _, by omega⟩
  · exact ⟨(m / 2, x * y, y * y), (by (refine ent_ok [] rfl ?_ ?_ <;> simp only [memLe, slotsLe, AvLe, lk, ↓reduceIte, Nat.reduceEqDiff, Option.isSome_some, List.contains_cons, List.contains_nil, Bool.or_false, Nat.reduceBEq, and_self, and_true, true_and, reduceCtorEq, List.map_nil, List.map_cons, Option.some.injEq, AV.v.injEq, Value.int.injEq, Value.bool.injEq, AV.rd.injEq, AV.ow.injEq, AV.al.injEq, AV.ref.injEq] <;> (first | omega | (refine ⟨?_, ?_, ?_⟩ <;> omega)))), ⟨by dsimp only; omega, pw_odd hs.2 (by omega)⟩, by dsimp only; omega⟩
  · refine ⟨(m / 2, x * y, y), (by (refine ent_ok [] rfl ?_ ?_ <;> simp only [memLe, slotsLe, AvLe, lk, ↓reduceIte, Nat.reduceEqDiff, Option.isSome_some, List.contains_cons, List.contains_nil, Bool.or_false, Nat.reduceBEq, and_self, and_true, true_and, reduceCtorEq, List.map_nil, List.map_cons, Option.some.injEq, AV.v.injEq, Value.int.injEq, Value.bool.injEq, AV.rd.injEq, AV.ow.injEq, AV.al.injEq, AV.ref.injEq] <;> (first | omega | (refine ⟨?_, ?_, ?_⟩ <;> omega)))), ⟨by dsimp only; omega, ?_⟩, by dsimp only; omega⟩
    have h0 : m / 2 = 0 := by omega
    have h1 := pw_odd hs.2 (by omega)
    dsimp only
    rw [h0, Nat.pow_zero, Nat.mul_one] at h1 ⊢
    exact h1
  · omega
  · obtain ⟨hx, hy, hx0, hy0⟩ := pw_le hs.2 hBN (by omega)
    have yl := len_mono hy
    exact ⟨lim_limbs _, by omega⟩
  · exact ⟨(m / 2, x, y * y), (by (refine ent_ok [] rfl ?_ ?_ <;> simp only [memLe, slotsLe, AvLe, lk, ↓reduceIte, Nat.reduceEqDiff, Option.isSome_some, List.contains_cons, List.contains_nil, Bool.or_false, Nat.reduceBEq, and_self, and_true, true_and, reduceCtorEq, List.map_nil, List.map_cons, Option.some.injEq, AV.v.injEq, Value.int.injEq, Value.bool.injEq, AV.rd.injEq, AV.ow.injEq, AV.al.injEq, AV.ref.injEq] <;> (first | omega | (refine ⟨?_, ?_, ?_⟩ <;> omega)))), ⟨by dsimp only; omega, pw_even hs.2 (by omega)⟩, by dsimp only; omega⟩
  · refine ⟨(m / 2, x, y), (by (refine ent_ok [] rfl ?_ ?_ <;> simp only [memLe, slotsLe, AvLe, lk, ↓reduceIte, Nat.reduceEqDiff, Option.isSome_some, List.contains_cons, List.contains_nil, Bool.or_false, Nat.reduceBEq, and_self, and_true, true_and, reduceCtorEq, List.map_nil, List.map_cons, Option.some.injEq, AV.v.injEq, Value.int.injEq, Value.bool.injEq, AV.rd.injEq, AV.ow.injEq, AV.al.injEq, AV.ref.injEq] <;> (first | omega | (refine ⟨?_, ?_, ?_⟩ <;> omega)))), ⟨by dsimp only; omega, ?_⟩, by dsimp only; omega⟩
    have h0 : m / 2 = 0 := by omega
    have h1 := pw_even hs.2 (by omega)
    dsimp only
    rw [h0, Nat.pow_zero, Nat.mul_one] at h1 ⊢
    exact h1
  · have h0 : m = 0 := by omega
    have h1 := hs.2
    rw [h0, Nat.pow_zero, Nat.mul_one] at h1
    rw [h1]
theorem sound_91 : Sound Try.prog 91 .body (norm s91) := by
  refine sound_norm (sound_body Try.func91 (show Try.f91.body = some (code Try.f91) from rfl) (by kernel_rfl) tysOk G91_ok (drawOk_ok (by kernel_rfl) tysOk G91_ok) (by kernel_rfl) fun ds p r hs hp => ?_)
  unfold s91 at hs
  split at hs
  · cases hs; exact ⟨Nat.le_of_ble_eq_true (by kernel_rfl), w91 _ _ hp⟩
  · cases hs
end Go.Proofs.AMT
set_option maxRecDepth 20000
namespace Go.Proofs.AMT
open Go.AM Go.AM.LN
attribute [local congr] bindO_congr bindS_congr bindG_congr awpOps_congr aOne_congr awp_congr aCond_congr awpD_congr dOne_congr keysB_congr nOne_congr thenP_congr blockP_congr Chk_congr Brk_congr
noncomputable def s83 : CSpec := fun ds => match ds with
  | [.v (.int .u64 b), .v (.int .i64 n)] => some ((b = 2 ∨ b = 10) ∧ 0 ≤ n ∧ n ≤ 200000, .one (.view .u64 (limbs (b.toNat ^ n.toNat))))
  | _ => none
theorem s83_eq (b : Int) (n : Int) : norm s83 [.v (.int .u64 b), .v (.int .i64 n)] = some ((b = 2 ∨ b = 10) ∧ 0 ≤ n ∧ n ≤ 200000, .one (.view .u64 (limbs (b.toNat ^ n.toNat)))) := rfl
noncomputable def G83 : Gam := [(86, .body, norm s86), (91, .body, norm s91)]
theorem G83_ok : GamOk Try.prog G83 := gamOk_cons sound_86 (gamOk_cons sound_91 gamOk_nil)
theorem k83_86 : lk G83 86 = some (.body, norm s86) := rfl
theorem k83_91 : lk G83 91 = some (.body, norm s91) := rfl
set_option maxHeartbeats 20000000 in
theorem w83 (b : Int) (n : Int) (hp : (b = 2 ∨ b = 10) ∧ 0 ≤ n ∧ n ≤ 200000) : awp ty G83 (code Try.f83) (retP ty Try.f83.results.toList (.one (.view .u64 (limbs (b.toNat ^ n.toNat))))) (entry 0 [.v (.int .u64 b), .v (.int .i64 n)]) [] := by
  unfold code
  simp only [Try.f83, Option.getD_some]
  have i2 : (2 : Int).toNat = 2 := rfl
  have i10 : (10 : Int).toNat = 10 := rfl
  obtain ⟨hb, hn⟩ := hp
  rcases hb with rfl | rfl
  all_goals first
    | (have gb : ((10 : Int) == 2) = false := rfl)
    | skip
  all_goals repeat' (first
    | ((first
       | (with_reducible refine ops_k ?_; intro X hX)
       | (with_reducible refine opsN_k ?_; intro X hX)
       | (with_reducible show awp _ _ _ _ (keepL _ _) _)
       | with_reducible refine awp_cond_k ?_
       | (with_reducible refine Brk_i ?_ ?_ <;> intro hb <;> (try simp only [hb]) <;> have hq := hb <;> try simp only [decide_eq_true_eq, decide_eq_false_iff_not, gt_iff_lt, ge_iff_le, Int.not_lt, Int.not_le, beq_iff_eq, beq_eq_false_iff_ne, Bool.not_eq_true', Bool.not_eq_false', Bool.and_eq_true, Bool.or_eq_true, Bool.and_eq_false_imp, Bool.or_eq_false_iff, ne_eq, Classical.not_not] at hq)
       | with_reducible refine retP_ret_i ?_
       | with_reducible refine retP_normal_i ?_
       | (with_reducible (show bindG _ _ _ _ _); simp only [hall])) <;> try simp only [Go.AM.S1, Go.AM.S2, Go.AM.S3, Go.AM.S4, Go.AM.S5, Go.AM.S6, Go.AM.S7, Go.AM.S8, Go.AM.S9, Nat.reduceAdd, Nat.reduceMul, Nat.reduceSub, ↓reduceIte, Nat.reduceEqDiff, Nat.reduceLT, Nat.reduceLeDiff, reduceCtorEq, Int.reduceBEq, Int.reduceBNe, Nat.reduceBEq, Int.reduceEq, Int.reduceToNat, Int.reduceLE, Int.reduceLT, Nat.reduceDiv, Int.reduceAdd, Int.reduceSub, Int.reduceMul, Int.reduceNeg, Int.reduceGT, Int.reduceGE, Nat.reduceMod, k83_86, s86_eq, s86_nil1, k83_91, s91_eq, ty_3, ty_26, ty_42, toInts, gb, sz_one, Int.toNat_one, Nat.one_mul, i2, i10])
    | (with_reducible refine hX _ _ ?_; clear hX X)
    | (with_reducible refine ops_nil_i ?_; try clear hall all)
    | (with_reducible refine opsN_nil_i ?_; try clear hall all)
    | (with_reducible refine hK _ _ ?_; clear hK K)
    | with_reducible refine thenP_normal_i ?_
    | (with_reducible refine zzr3 _ _ ?_; try clear zzr3 Kzzr3)
    | (with_reducible refine zzsr1 _ _ ?_; try clear zzsr1 Kzzsr1)
    | (with_reducible refine zzr2 _ _ ?_; try clear zzr2 Kzzr2)
    | (with_reducible refine zzr1 _ _ ?_; try clear zzr1 Kzzr1)
    | (with_reducible refine zzr0 _ _ ?_; try clear zzr0 Kzzr0)
    | (with_reducible refine awp_seq_l (a := .region 3 _ _) [4] ?_; intro Kzzr3 zzr3)
    | (with_reducible refine awp_seq_l (a := .seq (.region 1 _ _) _) [0, 1] ?_; intro Kzzsr1 zzsr1)
    | (with_reducible refine awp_seq_l (a := .region 2 _ _) [4] ?_; intro Kzzr2 zzr2)
    | (with_reducible refine awp_seq_l (a := .region 1 _ _) [0, 1, 6] ?_; intro Kzzr1 zzr1)
    | (with_reducible refine awp_seq_l (a := .region 0 _ _) [0, 1] ?_; intro Kzzr0 zzr0)
    | (with_reducible refine awp_seq_k ?_; intro K hK)
    | (with_reducible refine awp_region_a ?_; intro all hall K hK)
    | (with_reducible refine awp_draw_n ?_ ?_; kernel_rfl; intro all hall K hK)
    | (with_reducible refine Chk_i ?_ ?_)
    | (with_reducible refine keysC_i ?_; kernel_rfl)
    | (with_reducible first | refine awp_block_i ?_ | refine awp_skip_i ?_ | refine awp_ret_i ?_ | refine awp_exit_i ?_ | refine thenP_ret_i ?_ | refine thenP_exit_i ?_ | refine lpP_ret_i ?_ | refine lpP_exit_i ?_ | refine unrP_succ_i ?_ | refine unrP_ret_i ?_ | refine unrP_exit_i ?_ | refine blockP_normal_i ?_ | refine blockP_ret_i ?_)
    | (with_reducible refine blockP_exit_i ?_; simp only [↓reduceIte, Nat.reduceEqDiff])
    | with_reducible refine lpP_normal_i ?_)
  all_goals (try clear zzr0; try clear Kzzr0)
  all_goals (try clear zzr1; try clear Kzzr1)
  all_goals (try clear zzr2; try clear Kzzr2)
  all_goals (try clear zzsr1; try clear Kzzsr1)
  all_goals (try clear zzr3; try clear Kzzr3)
  all_goals (try simp only [inR])
  all_goals first
    | omega
    | exact ⟨lim_one ⟨by omega, by omega⟩, by omega⟩
    | skip
theorem sound_83 : Sound Try.prog 83 .body (norm s83) := by
  refine sound_norm (sound_body Try.func83 (show Try.f83.body = some (code Try.f83) from rfl) (by kernel_rfl) tysOk G83_ok (drawOk_ok (by kernel_rfl) tysOk G83_ok) (by kernel_rfl) fun ds p r hs hp => ?_)
  unfold s83 at hs
  split at hs
  · cases hs; exact ⟨Nat.le_of_ble_eq_true (by kernel_rfl), w83 _ _ hp⟩
  · cases hs
end Go.Proofs.AMT
set_option maxRecDepth 20000
namespace Go.Proofs.AMT
open Go.AM Go.AM.LN
attribute [local congr] bindO_congr bindS_congr bindG_congr awpOps_congr aOne_congr awp_congr aCond_congr awpD_congr dOne_congr keysB_congr nOne_congr thenP_congr blockP_congr Chk_congr Brk_congr
noncomputable def s53 : CSpec := fun ds => match ds with
  | [.sl .u64 a, .sl .u64 b, .v (.int .u64 c), .v (.int .i64 e)] => some ((c = 2 ∨ c = 10) ∧ (lim a ∧ limbs (val a) = a ∧ a.length ≤ 1000000) ∧ lim b ∧ limbs (val b) = b ∧ b.length ≤ 1000000, .many [.view .u64 (limbs (val a * c.toNat ^ (scE c e).toNat)), .view .u64 (limbs (val b * c.toNat ^ (-scE c e).toNat))])
  | _ => none
theorem s53_eq (a : List Int) (b : List Int) (c : Int) (e : Int) : norm s53 [.sl .u64 a, .sl .u64 b, .v (.int .u64 c), .v (.int .i64 e)] = some ((c = 2 ∨ c = 10) ∧ (lim a ∧ limbs (val a) = a ∧ a.length ≤ 1000000) ∧ lim b ∧ limbs (val b) = b ∧ b.length ≤ 1000000, .many [.view .u64 (limbs (val a * c.toNat ^ (scE c e).toNat)), .view .u64 (limbs (val b * c.toNat ^ (-scE c e).toNat))]) := rfl
theorem s53_nil1  (b : List Int) (c : Int) (e : Int) : norm s53 [.v (.slice none 0 0), .sl .u64 b, .v (.int .u64 c), .v (.int .i64 e)] = some ((c = 2 ∨ c = 10) ∧ (lim ([] : List Int) ∧ limbs (val ([] : List Int)) = ([] : List Int) ∧ ([] : List Int).length ≤ 1000000) ∧ lim b ∧ limbs (val b) = b ∧ b.length ≤ 1000000, .many [.view .u64 (limbs (val ([] : List Int) * c.toNat ^ (scE c e).toNat)), .view .u64 (limbs (val b * c.toNat ^ (-scE c e).toNat))]) := rfl
theorem s53_nil2 (a : List Int)  (c : Int) (e : Int) : norm s53 [.sl .u64 a, .v (.slice none 0 0), .v (.int .u64 c), .v (.int .i64 e)] = some ((c = 2 ∨ c = 10) ∧ (lim a ∧ limbs (val a) = a ∧ a.length ≤ 1000000) ∧ lim ([] : List Int) ∧ limbs (val ([] : List Int)) = ([] : List Int) ∧ ([] : List Int).length ≤ 1000000, .many [.view .u64 (limbs (val a * c.toNat ^ (scE c e).toNat)), .view .u64 (limbs (val ([] : List Int) * c.toNat ^ (-scE c e).toNat))]) := rfl
theorem s53_nil3   (c : Int) (e : Int) : norm s53 [.v (.slice none 0 0), .v (.slice none 0 0), .v (.int .u64 c), .v (.int .i64 e)] = some ((c = 2 ∨ c = 10) ∧ (lim ([] : List Int) ∧ limbs (val ([] : List Int)) = ([] : List Int) ∧ ([] : List Int).length ≤ 1000000) ∧ lim ([] : List Int) ∧ limbs (val ([] : List Int)) = ([] : List Int) ∧ ([] : List Int).length ≤ 1000000, .many [.view .u64 (limbs (val ([] : List Int) * c.toNat ^ (scE c e).toNat)), .view .u64 (limbs (val ([] : List Int) * c.toNat ^ (-scE c e).toNat))]) := rfl
noncomputable def G53 : Gam := [(82, .body, norm s82), (83, .body, norm s83)]
theorem G53_ok : GamOk Try.prog G53 := gamOk_cons sound_82 (gamOk_cons sound_83 gamOk_nil)
theorem k53_82 : lk G53 82 = some (.body, norm s82) := rfl
theorem k53_83 : lk G53 83 = some (.body, norm s83) := rfl
set_option maxHeartbeats 20000000 in
theorem w53 (a : List Int) (b : List Int) (c : Int) (e : Int) (hp : (c = 2 ∨ c = 10) ∧ (lim a ∧ limbs (val a) = a ∧ a.length ≤ 1000000) ∧ lim b ∧ limbs (val b) = b ∧ b.length ≤ 1000000) : awp ty G53 (code Try.f53) (retP ty Try.f53.results.toList (.many [.view .u64 (limbs (val a * c.toNat ^ (scE c e).toNat)), .view .u64 (limbs (val b * c.toNat ^ (-scE c e).toNat))])) (entry 0 [.sl .u64 a, .sl .u64 b, .v (.int .u64 c), .v (.int .i64 e)]) [] := by
  unfold code
  simp only [Try.f53, Option.getD_some]
  have i2 : (2 : Int).toNat = 2 := rfl
  have i10 : (10 : Int).toNat = 10 := rfl
  obtain ⟨hc, la, lb⟩ := hp
  have hb := scE_b c e
  obtain ⟨E, hE'⟩ : ∃ E, scE c e = E := ⟨_, rfl⟩
  have hE'' := hE'
  rw [hE'] at hb ⊢
  rcases hc with rfl | rfl
  all_goals first
    | (rw [scE10] at hE''; have gc : ((10 : Int) == 10) = true := rfl; have hE : min (max e (-60000)) 60000 = E := hE'')
    | (rw [scE2] at hE''; have gc : ((2 : Int) == 10) = false := rfl; have hE : min (max e (-200000)) 200000 = E := hE'')
  all_goals repeat' (first
    | ((first
       | (with_reducible refine ops_k ?_; intro X hX)
       | (with_reducible refine opsN_k ?_; intro X hX)
       | (with_reducible show awp _ _ _ _ (keepL _ _) _)
       | with_reducible refine awp_cond_k ?_
       | (with_reducible refine Brk_i ?_ ?_ <;> intro hb <;> (try simp only [hb]) <;> have hq := hb <;> try simp only [decide_eq_true_eq, decide_eq_false_iff_not, gt_iff_lt, ge_iff_le, Int.not_lt, Int.not_le, beq_iff_eq, beq_eq_false_iff_ne, Bool.not_eq_true', Bool.not_eq_false', Bool.and_eq_true, Bool.or_eq_true, Bool.and_eq_false_imp, Bool.or_eq_false_iff, ne_eq, Classical.not_not] at hq)
       | with_reducible refine retP_ret_i ?_
       | with_reducible refine retP_normal_i ?_
       | (with_reducible (show bindG _ _ _ _ _); simp only [hall])) <;> try simp only [Go.AM.S1, Go.AM.S2, Go.AM.S3, Go.AM.S4, Go.AM.S5, Go.AM.S6, Go.AM.S7, Go.AM.S8, Go.AM.S9, Nat.reduceAdd, Nat.reduceMul, Nat.reduceSub, ↓reduceIte, Nat.reduceEqDiff, Nat.reduceLT, Nat.reduceLeDiff, reduceCtorEq, Int.reduceBEq, Int.reduceBNe, Nat.reduceBEq, Int.reduceEq, Int.reduceToNat, Int.reduceLE, Int.reduceLT, Nat.reduceDiv, Int.reduceAdd, Int.reduceSub, Int.reduceMul, Int.reduceNeg, Int.reduceGT, Int.reduceGE, Nat.reduceMod, k53_82, s82_eq, s82_nil1, s82_nil2, s82_nil3, k53_83, s83_eq, ty_3, ty_26, ty_42, toInts, gc, i2, i10, val_limbs, hE, Int.zero_sub])
    | (with_reducible refine hX _ _ ?_; clear hX X)
    | (with_reducible refine ops_nil_i ?_; try clear hall all)
    | (with_reducible refine opsN_nil_i ?_; try clear hall all)
    | (with_reducible refine hK _ _ ?_; clear hK K)
    | with_reducible refine thenP_normal_i ?_
    | (with_reducible refine zzr7 _ _ ?_; try clear zzr7 Kzzr7)
    | (with_reducible refine zzsr5 _ _ ?_; try clear zzsr5 Kzzsr5)
    | (with_reducible refine zzr6 _ _ ?_; try clear zzr6 Kzzr6)
    | (with_reducible refine zzr5 _ _ ?_; try clear zzr5 Kzzr5)
    | (with_reducible refine zzr4 _ _ ?_; try clear zzr4 Kzzr4)
    | (with_reducible refine zzsr2 _ _ ?_; try clear zzsr2 Kzzsr2)
    | (with_reducible refine zzr2 _ _ ?_; try clear zzr2 Kzzr2)
    | (with_reducible refine zzr1 _ _ ?_; try clear zzr1 Kzzr1)
    | (with_reducible refine zzr0 _ _ ?_; try clear zzr0 Kzzr0)
    | (with_reducible refine awp_seq_l (a := .region 7 _ _) [8, 9] ?_; intro Kzzr7 zzr7)
    | (with_reducible refine awp_seq_l (a := .seq (.region 5 _ _) _) [0, 1, 2, 3] ?_; intro Kzzsr5 zzsr5)
    | (with_reducible refine awp_seq_l (a := .region 6 _ _) [8, 9] ?_; intro Kzzr6 zzr6)
    | (with_reducible refine awp_seq_l (a := .region 5 _ _) [0, 1, 2, 3, 20] ?_; intro Kzzr5 zzr5)
    | (with_reducible refine awp_seq_l (a := .region 4 _ _) [0, 1, 2, 3] ?_; intro Kzzr4 zzr4)
    | (with_reducible refine awp_seq_l (a := .seq (.region 2 _ _) _) [0, 1, 2, 3, 10] ?_; intro Kzzsr2 zzsr2)
    | (with_reducible refine awp_seq_l (a := .region 2 _ _) [0, 1, 2, 3, 10, 12] ?_; intro Kzzr2 zzr2)
    | (with_reducible refine awp_seq_l (a := .region 1 _ _) [0, 1, 2, 3, 10] ?_; intro Kzzr1 zzr1)
    | (with_reducible refine awp_seq_l (a := .region 0 _ _) [0, 1, 2, 3] ?_; intro Kzzr0 zzr0)
    | (with_reducible refine awp_seq_k ?_; intro K hK)
    | (with_reducible refine awp_region_a ?_; intro all hall K hK)
    | (with_reducible refine awp_draw_n ?_ ?_; kernel_rfl; intro all hall K hK)
    | (with_reducible refine Chk_i ?_ ?_)
    | (with_reducible refine keysC_i ?_; kernel_rfl)
    | (with_reducible first | refine awp_block_i ?_ | refine awp_skip_i ?_ | refine awp_ret_i ?_ | refine awp_exit_i ?_ | refine thenP_ret_i ?_ | refine thenP_exit_i ?_ | refine lpP_ret_i ?_ | refine lpP_exit_i ?_ | refine unrP_succ_i ?_ | refine unrP_ret_i ?_ | refine unrP_exit_i ?_ | refine blockP_normal_i ?_ | refine blockP_ret_i ?_)
    | (with_reducible refine blockP_exit_i ?_; simp only [↓reduceIte, Nat.reduceEqDiff])
    | with_reducible refine lpP_normal_i ?_)
  all_goals (try clear zzr0; try clear Kzzr0)
  all_goals (try clear zzr1; try clear Kzzr1)
  all_goals (try clear zzr2; try clear Kzzr2)
  all_goals (try clear zzsr2; try clear Kzzsr2)
  all_goals (try clear zzr4; try clear Kzzr4)
  all_goals (try clear zzr5; try clear Kzzr5)
  all_goals (try clear zzr6; try clear Kzzr6)
  all_goals (try clear zzsr5; try clear Kzzsr5)
  all_goals (try clear zzr7; try clear Kzzr7)
  all_goals (try simp only [inR])
  all_goals first
    | omega
    | exact ⟨⟨la.1, by omega⟩, lim_limbs _, by have h := @pw_len 2 E.toNat (by omega); omega⟩
    | exact ⟨⟨la.1, by omega⟩, lim_limbs _, by have h := @pw_len 10 E.toNat (by omega); omega⟩
    | exact ⟨⟨lb.1, by omega⟩, lim_limbs _, by have h := @pw_len 2 (-E).toNat (by omega); omega⟩
    | exact ⟨⟨lb.1, by omega⟩, lim_limbs _, by have h := @pw_len 10 (-E).toNat (by omega); omega⟩
    | (rw [pow_zero_of (by omega), Nat.mul_one, lb.2.1]; done)
    | (rw [pow_zero_of (by omega), Nat.mul_one, la.2.1]; done)
    | skip
theorem sound_53 : Sound Try.prog 53 .body (norm s53) := by
  refine sound_norm (sound_body Try.func53 (show Try.f53.body = some (code Try.f53) from rfl) (by kernel_rfl) tysOk G53_ok (drawOk_ok (by kernel_rfl) tysOk G53_ok) (by kernel_rfl) fun ds p r hs hp => ?_)
  unfold s53 at hs
  split at hs
  · cases hs; exact ⟨Nat.le_of_ble_eq_true (by kernel_rfl), w53 _ _ _ _ hp⟩
  · cases hs
end Go.Proofs.AMT
set_option maxRecDepth 20000
namespace Go.Proofs.AMT
open Go.AM Go.AM.LN
attribute [local congr] bindO_congr bindS_congr bindG_congr awpOps_congr aOne_congr awp_congr aCond_congr awpD_congr dOne_congr keysB_congr nOne_congr thenP_congr blockP_congr Chk_congr Brk_congr
noncomputable def s84 : CSpec := fun ds => match ds with
  | [.sl .u64 a, .sl .u64 b] => some ((lim a ∧ a.length ≤ 50000000) ∧ lim b ∧ b.length ≤ 50000000, .one (.v (.int .i64 (cmpI (val a) (val b)))))
  | _ => none
theorem s84_eq (a : List Int) (b : List Int) : norm s84 [.sl .u64 a, .sl .u64 b] = some ((lim a ∧ a.length ≤ 50000000) ∧ lim b ∧ b.length ≤ 50000000, .one (.v (.int .i64 (cmpI (val a) (val b))))) := rfl
theorem s84_nil1  (b : List Int) : norm s84 [.v (.slice none 0 0), .sl .u64 b] = some ((lim ([] : List Int) ∧ ([] : List Int).length ≤ 50000000) ∧ lim b ∧ b.length ≤ 50000000, .one (.v (.int .i64 (cmpI (val ([] : List Int)) (val b))))) := rfl
theorem s84_nil2 (a : List Int)  : norm s84 [.sl .u64 a, .v (.slice none 0 0)] = some ((lim a ∧ a.length ≤ 50000000) ∧ lim ([] : List Int) ∧ ([] : List Int).length ≤ 50000000, .one (.v (.int .i64 (cmpI (val a) (val ([] : List Int)))))) := rfl
theorem s84_nil3   : norm s84 [.v (.slice none 0 0), .v (.slice none 0 0)] = some ((lim ([] : List Int) ∧ ([] : List Int).length ≤ 50000000) ∧ lim ([] : List Int) ∧ ([] : List Int).length ≤ 50000000, .one (.v (.int .i64 (cmpI (val ([] : List Int)) (val ([] : List Int)))))) := rfl
noncomputable def G84 : Gam := [(89, .body, norm s89)]
theorem G84_ok : GamOk Try.prog G84 := gamOk_cons sound_89 gamOk_nil
theorem k84_89 : lk G84 89 = some (.body, norm s89) := rfl
set_option maxHeartbeats 20000000 in
theorem w84 (a : List Int) (b : List Int) (hp : (lim a ∧ a.length ≤ 50000000) ∧ lim b ∧ b.length ≤ 50000000) : awp ty G84 (code Try.f84) (retP ty Try.f84.results.toList (.one (.v (.int .i64 (cmpI (val a) (val b)))))) (entry 0 [.sl .u64 a, .sl .u64 b]) [] := by
  unfold code
  simp only [Try.f84, Option.getD_some]
  obtain ⟨N, hN⟩ : ∃ N, max a.length b.length = N := ⟨_, rfl⟩
  have mE : max (a.length : Int) (b.length : Int) = (N : Int) := by omega
  all_goals repeat' (first
    | ((first
       | (with_reducible refine ops_k ?_; intro X hX)
       | (with_reducible refine opsN_k ?_; intro X hX)
       | (with_reducible show awp _ _ _ _ (keepL _ _) _)
       | with_reducible refine awp_cond_k ?_
       | (with_reducible refine Brk_i ?_ ?_ <;> intro hb <;> (try simp only [hb]) <;> have hq := hb <;> try simp only [decide_eq_true_eq, decide_eq_false_iff_not, gt_iff_lt, ge_iff_le, Int.not_lt, Int.not_le, beq_iff_eq, beq_eq_false_iff_ne, Bool.not_eq_true', Bool.not_eq_false', Bool.and_eq_true, Bool.or_eq_true, Bool.and_eq_false_imp, Bool.or_eq_false_iff, ne_eq, Classical.not_not] at hq)
       | with_reducible refine retP_ret_i ?_
       | with_reducible refine retP_normal_i ?_
       | (with_reducible (show bindG _ _ _ _ _); simp only [hall])) <;> try simp only [Go.AM.S1, Go.AM.S2, Go.AM.S3, Go.AM.S4, Go.AM.S5, Go.AM.S6, Go.AM.S7, Go.AM.S8, Go.AM.S9, Nat.reduceAdd, Nat.reduceMul, Nat.reduceSub, ↓reduceIte, Nat.reduceEqDiff, Nat.reduceLT, Nat.reduceLeDiff, reduceCtorEq, Int.reduceBEq, Int.reduceBNe, Nat.reduceBEq, Int.reduceEq, Int.reduceToNat, Int.reduceLE, Int.reduceLT, Nat.reduceDiv, Int.reduceAdd, Int.reduceSub, Int.reduceMul, Int.reduceNeg, Int.reduceGT, Int.reduceGE, Nat.reduceMod, k84_89, s89_eq, s89_nil1, ty_3, ty_26, ty_42, mE])
    | (with_reducible refine hX _ _ ?_; clear hX X)
    | (with_reducible refine ops_nil_i ?_; try clear hall all)
    | (with_reducible refine opsN_nil_i ?_; try clear hall all)
    | (with_reducible refine hK _ _ ?_; clear hK K)
    | with_reducible refine thenP_normal_i ?_
    | (with_reducible refine zzr9 _ _ ?_; try clear zzr9 Kzzr9)
    | (with_reducible refine zzsr1 _ _ ?_; try clear zzsr1 Kzzsr1)
    | (with_reducible refine zzb1 _ _ ?_; try clear zzb1 Kzzb1)
    | (with_reducible refine zzr8 _ _ ?_; try clear zzr8 Kzzr8)
    | (with_reducible refine zzr7 _ _ ?_; try clear zzr7 Kzzr7)
    | (with_reducible refine zzsr5 _ _ ?_; try clear zzsr5 Kzzsr5)
    | (with_reducible refine zzr6 _ _ ?_; try clear zzr6 Kzzr6)
    | (with_reducible refine zzr5 _ _ ?_; try clear zzr5 Kzzr5)
    | (with_reducible refine zzr4 _ _ ?_; try clear zzr4 Kzzr4)
    | (with_reducible refine zzsr2 _ _ ?_; try clear zzsr2 Kzzsr2)
    | (with_reducible refine zzr2 _ _ ?_; try clear zzr2 Kzzr2)
    | (with_reducible refine zzr1 _ _ ?_; try clear zzr1 Kzzr1)
    | (with_reducible refine zzr0 _ _ ?_; try clear zzr0 Kzzr0)
    | (with_reducible refine awp_lp (σ := Nat) (fun n => n ≤ N ∧ val (a.drop n) = val (b.drop n)) (fun n => [(0, .rd .u64 a), (1, .rd .u64 b), (5, .v (.int .i64 ((n : Int) - 1)))]) (fun _ => []) (fun n => n) N ?_ ?_ (fun s hs => ?_))
    | (with_reducible refine awp_seq_l (a := .region 9 _ _) [4] ?_; intro Kzzr9 zzr9)
    | (with_reducible refine awp_seq_l (a := .seq (.region 1 _ _) _) [] ?_; intro Kzzsr1 zzsr1)
    | (with_reducible refine awp_seq_l (a := .block 1 _) [0, 1, 5] ?_; intro Kzzb1 zzb1)
    | (with_reducible refine awp_seq_l (a := .region 8 _ _) [4] ?_; intro Kzzr8 zzr8)
    | (with_reducible refine awp_seq_l (a := .region 7 _ _) [0, 1, 5, 29] ?_; intro Kzzr7 zzr7)
    | (with_reducible refine awp_seq_l (a := .seq (.region 5 _ _) _) [0, 1, 5, 6, 7] ?_; intro Kzzsr5 zzsr5)
    | (with_reducible refine awp_seq_l (a := .region 6 _ _) [4] ?_; intro Kzzr6 zzr6)
    | (with_reducible refine awp_seq_l (a := .region 5 _ _) [0, 1, 5, 6, 7, 26] ?_; intro Kzzr5 zzr5)
    | (with_reducible refine awp_seq_l (a := .region 4 _ _) [0, 1, 5, 6, 7] ?_; intro Kzzr4 zzr4)
    | (with_reducible refine awp_seq_l (a := .seq (.region 2 _ _) _) [0, 1, 5] ?_; intro Kzzsr2 zzsr2)
    | (with_reducible refine awp_seq_l (a := .region 2 _ _) [0, 1, 5, 15] ?_; intro Kzzr2 zzr2)
    | (with_reducible refine awp_seq_l (a := .region 1 _ _) [0, 1, 5] ?_; intro Kzzr1 zzr1)
    | (with_reducible refine awp_seq_l (a := .region 0 _ _) [0, 1] ?_; intro Kzzr0 zzr0)
    | (with_reducible refine awp_seq_k ?_; intro K hK)
    | (with_reducible refine awp_region_a ?_; intro all hall K hK)
    | (with_reducible refine awp_draw_n ?_ ?_; kernel_rfl; intro all hall K hK)
    | (with_reducible refine Chk_i ?_ ?_)
    | (with_reducible refine keysC_i ?_; kernel_rfl)
    | (with_reducible first | refine awp_block_i ?_ | refine awp_skip_i ?_ | refine awp_ret_i ?_ | refine awp_exit_i ?_ | refine thenP_ret_i ?_ | refine thenP_exit_i ?_ | refine lpP_ret_i ?_ | refine lpP_exit_i ?_ | refine unrP_succ_i ?_ | refine unrP_ret_i ?_ | refine unrP_exit_i ?_ | refine blockP_normal_i ?_ | refine blockP_ret_i ?_)
    | (with_reducible refine blockP_exit_i ?_; simp only [↓reduceIte, Nat.reduceEqDiff])
    | with_reducible refine lpP_normal_i ?_)
  all_goals (try clear zzr0; try clear Kzzr0)
  all_goals (try clear zzr1; try clear Kzzr1)
  all_goals (try clear zzr2; try clear Kzzr2)
  all_goals (try clear zzsr2; try clear Kzzsr2)
  all_goals (try clear zzr4; try clear Kzzr4)
  all_goals (try clear zzr5; try clear Kzzr5)
  all_goals (try clear zzr6; try clear Kzzr6)
  all_goals (try clear zzsr5; try clear Kzzsr5)
  all_goals (try clear zzr7; try clear Kzzr7)
  all_goals (try clear zzr8; try clear Kzzr8)
  all_goals (try clear zzb1; try clear Kzzb1)
  all_goals (try clear zzsr1; try clear Kzzsr1)
  all_goals (try clear zzr9; try clear Kzzr9)
  all_goals clear mE
  all_goals (try simp only [inR])
  all_goals (try omega)
  · exact ⟨Nat.le_refl _, by rw [List.drop_eq_nil_of_le (by omega), List.drop_eq_nil_of_le (by omega)]⟩
  · with_reducible exact Ent.refl _ _
  · have e : ((s : Int) - 1).toNat = s - 1 := by omega
    rw [e] at hq
    rw [cmpI_lt (drop_step_lt (i := s - 1) hp.1.1 hp.2.1 (by rw [show s - 1 + 1 = s by omega]; exact hs.2) hq)]
  · have e : ((s : Int) - 1).toNat = s - 1 := by omega
    rw [e] at hq
    rw [cmpI_gt (drop_step_lt (i := s - 1) hp.2.1 hp.1.1 (by rw [show s - 1 + 1 = s by omega]; exact hs.2.symm) hq)]
  · have e : ((s : Int) - 1).toNat = s - 1 := by omega
    simp only [e] at *
    exact ⟨s - 1, (by (refine ent_ok [] rfl ?_ ?_ <;> simp only [memLe, slotsLe, AvLe, lk, ↓reduceIte, Nat.reduceEqDiff, Option.isSome_some, and_self, and_true, true_and, reduceCtorEq, List.map_nil, List.map_cons, Option.some.injEq, AV.v.injEq, Value.int.injEq, Value.bool.injEq, AV.rd.injEq, AV.ow.injEq, AV.al.injEq, AV.ref.injEq] <;> omega)), ⟨by omega, drop_step_eq (by rw [show s - 1 + 1 = s by omega]; exact hs.2) (by omega)⟩, by omega⟩
  · have h0 : s = 0 := by omega
    subst h0
    have h1 := hs.2
    rw [List.drop_zero, List.drop_zero] at h1
    rw [cmpI_eq h1]
theorem sound_84 : Sound Try.prog 84 .body (norm s84) := by
  refine sound_norm (sound_body Try.func84 (show Try.f84.body = some (code Try.f84) from rfl) (by kernel_rfl) tysOk G84_ok (drawOk_ok (by kernel_rfl) tysOk G84_ok) (by kernel_rfl) fun ds p r hs hp => ?_)
  unfold s84 at hs
  split at hs
  · cases hs; exact ⟨Nat.le_of_ble_eq_true (by kernel_rfl), w84 _ _ hp⟩
  · cases hs
end Go.Proofs.AMT
set_option maxRecDepth 20000
namespace Go.Proofs.AMT
open Go.AM Go.AM.LN
attribute [local congr] bindO_congr bindS_congr bindG_congr awpOps_congr aOne_congr awp_congr aCond_congr awpD_congr dOne_congr keysB_congr nOne_congr thenP_congr blockP_congr Chk_congr Brk_congr
noncomputable def s54 : CSpec := fun ds => match ds with
  | [.sl .u64 a, .sl .u64 b] => some ((lim a ∧ limbs (val a) = a ∧ a.length ≤ 10000) ∧ lim b ∧ limbs (val b) = b ∧ b.length ≤ 10000, .one (.v (.int .i64 (lowR (val a) (val b)))))
  | _ => none
theorem s54_eq (a : List Int) (b : List Int) : norm s54 [.sl .u64 a, .sl .u64 b] = some ((lim a ∧ limbs (val a) = a ∧ a.length ≤ 10000) ∧ lim b ∧ limbs (val b) = b ∧ b.length ≤ 10000, .one (.v (.int .i64 (lowR (val a) (val b))))) := rfl
theorem s54_nil1  (b : List Int) : norm s54 [.v (.slice none 0 0), .sl .u64 b] = some ((lim ([] : List Int) ∧ limbs (val ([] : List Int)) = ([] : List Int) ∧ ([] : List Int).length ≤ 10000) ∧ lim b ∧ limbs (val b) = b ∧ b.length ≤ 10000, .one (.v (.int .i64 (lowR (val ([] : List Int)) (val b))))) := rfl
theorem s54_nil2 (a : List Int)  : norm s54 [.sl .u64 a, .v (.slice none 0 0)] = some ((lim a ∧ limbs (val a) = a ∧ a.length ≤ 10000) ∧ lim ([] : List Int) ∧ limbs (val ([] : List Int)) = ([] : List Int) ∧ ([] : List Int).length ≤ 10000, .one (.v (.int .i64 (lowR (val a) (val ([] : List Int)))))) := rfl
theorem s54_nil3   : norm s54 [.v (.slice none 0 0), .v (.slice none 0 0)] = some ((lim ([] : List Int) ∧ limbs (val ([] : List Int)) = ([] : List Int) ∧ ([] : List Int).length ≤ 10000) ∧ lim ([] : List Int) ∧ limbs (val ([] : List Int)) = ([] : List Int) ∧ ([] : List Int).length ≤ 10000, .one (.v (.int .i64 (lowR (val ([] : List Int)) (val ([] : List Int)))))) := rfl
noncomputable def G54 : Gam := [(53, .body, norm s53), (56, .body, norm s56), (84, .body, norm s84)]
theorem G54_ok : GamOk Try.prog G54 := gamOk_cons sound_53 (gamOk_cons sound_56 (gamOk_cons sound_84 gamOk_nil))
theorem k54_53 : lk G54 53 = some (.body, norm s53) := rfl
theorem k54_56 : lk G54 56 = some (.body, norm s56) := rfl
theorem k54_84 : lk G54 84 = some (.body, norm s84) := rfl
set_option maxHeartbeats 20000000 in
theorem w54 (a : List Int) (b : List Int) (hp : (lim a ∧ limbs (val a) = a ∧ a.length ≤ 10000) ∧ lim b ∧ limbs (val b) = b ∧ b.length ≤ 10000) : awp ty G54 (code Try.f54) (retP ty Try.f54.results.toList (.one (.v (.int .i64 (lowR (val a) (val b)))))) (entry 0 [.sl .u64 a, .sl .u64 b]) [] := by
  unfold code
  simp only [Try.f54, Option.getD_some]
  have i2 : (2 : Int).toNat = 2 := rfl
  obtain ⟨la, lb⟩ := hp
  have ba := blen_val la.1
  have bb := blen_val lb.1
  have sb := scE_b 2 (-((blen (val a) : Int) - blen (val b)))
  all_goals repeat' (first
    | ((first
       | (with_reducible refine ops_k ?_; intro X hX)
       | (with_reducible refine opsN_k ?_; intro X hX)
       | (with_reducible show awp _ _ _ _ (keepL _ _) _)
       | with_reducible refine awp_cond_k ?_
       | (with_reducible refine Brk_i ?_ ?_ <;> intro hb <;> (try simp only [hb]) <;> have hq := hb <;> try simp only [decide_eq_true_eq, decide_eq_false_iff_not, gt_iff_lt, ge_iff_le, Int.not_lt, Int.not_le, beq_iff_eq, beq_eq_false_iff_ne, Bool.not_eq_true', Bool.not_eq_false', Bool.and_eq_true, Bool.or_eq_true, Bool.and_eq_false_imp, Bool.or_eq_false_iff, ne_eq, Classical.not_not] at hq)
       | with_reducible refine retP_ret_i ?_
       | with_reducible refine retP_normal_i ?_
       | (with_reducible (show bindG _ _ _ _ _); simp only [hall])) <;> try simp only [Go.AM.S1, Go.AM.S2, Go.AM.S3, Go.AM.S4, Go.AM.S5, Go.AM.S6, Go.AM.S7, Go.AM.S8, Go.AM.S9, Nat.reduceAdd, Nat.reduceMul, Nat.reduceSub, ↓reduceIte, Nat.reduceEqDiff, Nat.reduceLT, Nat.reduceLeDiff, reduceCtorEq, Int.reduceBEq, Int.reduceBNe, Nat.reduceBEq, Int.reduceEq, Int.reduceToNat, Int.reduceLE, Int.reduceLT, Nat.reduceDiv, Int.reduceAdd, Int.reduceSub, Int.reduceMul, Int.reduceNeg, Int.reduceGT, Int.reduceGE, Nat.reduceMod, k54_53, s53_eq, s53_nil1, s53_nil2, s53_nil3, k54_56, s56_eq, s56_nil1, k54_84, s84_eq, s84_nil1, s84_nil2, s84_nil3, ty_3, ty_26, ty_42, toInts, i2, val_limbs, Int.zero_sub])
    | (with_reducible refine hX _ _ ?_; clear hX X)
    | (with_reducible refine ops_nil_i ?_; try clear hall all)
    | (with_reducible refine opsN_nil_i ?_; try clear hall all)
    | (with_reducible refine hK _ _ ?_; clear hK K)
    | with_reducible refine thenP_normal_i ?_
    | (with_reducible refine zzr5 _ _ ?_; try clear zzr5 Kzzr5)
    | (with_reducible refine zzsr3 _ _ ?_; try clear zzsr3 Kzzsr3)
    | (with_reducible refine zzr3 _ _ ?_; try clear zzr3 Kzzr3)
    | (with_reducible refine zzr2 _ _ ?_; try clear zzr2 Kzzr2)
    | (with_reducible refine zzr1 _ _ ?_; try clear zzr1 Kzzr1)
    | (with_reducible refine zzr0 _ _ ?_; try clear zzr0 Kzzr0)
    | (with_reducible refine awp_seq_l (a := .region 5 _ _) [4] ?_; intro Kzzr5 zzr5)
    | (with_reducible refine awp_seq_l (a := .seq (.region 3 _ _) _) [5] ?_; intro Kzzsr3 zzsr3)
    | (with_reducible refine awp_seq_l (a := .region 3 _ _) [5, 24] ?_; intro Kzzr3 zzr3)
    | (with_reducible refine awp_seq_l (a := .region 2 _ _) [5, 6, 7] ?_; intro Kzzr2 zzr2)
    | (with_reducible refine awp_seq_l (a := .region 1 _ _) [0, 1, 5] ?_; intro Kzzr1 zzr1)
    | (with_reducible refine awp_seq_l (a := .region 0 _ _) [0, 1] ?_; intro Kzzr0 zzr0)
    | (with_reducible refine awp_seq_k ?_; intro K hK)
    | (with_reducible refine awp_region_a ?_; intro all hall K hK)
    | (with_reducible refine awp_draw_n ?_ ?_; kernel_rfl; intro all hall K hK)
    | (with_reducible refine Chk_i ?_ ?_)
    | (with_reducible refine keysC_i ?_; kernel_rfl)
    | (with_reducible first | refine awp_block_i ?_ | refine awp_skip_i ?_ | refine awp_ret_i ?_ | refine awp_exit_i ?_ | refine thenP_ret_i ?_ | refine thenP_exit_i ?_ | refine lpP_ret_i ?_ | refine lpP_exit_i ?_ | refine unrP_succ_i ?_ | refine unrP_ret_i ?_ | refine unrP_exit_i ?_ | refine blockP_normal_i ?_ | refine blockP_ret_i ?_)
    | (with_reducible refine blockP_exit_i ?_; simp only [↓reduceIte, Nat.reduceEqDiff])
    | with_reducible refine lpP_normal_i ?_)
  all_goals (try clear zzr0; try clear Kzzr0)
  all_goals (try clear zzr1; try clear Kzzr1)
  all_goals (try clear zzr2; try clear Kzzr2)
  all_goals (try clear zzr3; try clear Kzzr3)
  all_goals (try clear zzsr3; try clear Kzzsr3)
  all_goals (try clear zzr5; try clear Kzzr5)
  all_goals (try simp only [inR])
  all_goals first
    | omega
    | exact ⟨la.1, by omega⟩
    | exact ⟨lb.1, by omega⟩
    | exact ⟨⟨la.1, la.2.1, by omega⟩, lb.1, lb.2.1, by omega⟩
    | exact ⟨⟨lim_limbs _, by have := len_valpow la.1 (scE 2 (-((blen (val a) : Int) - blen (val b)))).toNat; omega⟩, lim_limbs _, by have := len_valpow lb.1 (-scE 2 (-((blen (val a) : Int) - blen (val b)))).toNat; omega⟩
    | (rw [lowR_lt hq]; done)
    | (rw [lowR_ge hq]; done)
    | skip
theorem sound_54 : Sound Try.prog 54 .body (norm s54) := by
  refine sound_norm (sound_body Try.func54 (show Try.f54.body = some (code Try.f54) from rfl) (by kernel_rfl) tysOk G54_ok (drawOk_ok (by kernel_rfl) tysOk G54_ok) (by kernel_rfl) fun ds p r hs hp => ?_)
  unfold s54 at hs
  split at hs
  · cases hs; exact ⟨Nat.le_of_ble_eq_true (by kernel_rfl), w54 _ _ hp⟩
  · cases hs
end Go.Proofs.AMT
set_option maxRecDepth 20000
namespace Go.Proofs.AMT
open Go.AM Go.AM.LN
attribute [local congr] bindO_congr bindS_congr bindG_congr awpOps_congr aOne_congr awp_congr aCond_congr awpD_congr dOne_congr keysB_congr nOne_congr thenP_congr blockP_congr Chk_congr Brk_congr
noncomputable def s108 : CSpec := fun ds => match ds with
  | [.v (.int .u64 n)] => some (0 ≤ n ∧ n < 18446744073709551616, .one (.fresh .u64 (limbs n.toNat)))
  | _ => none
theorem s108_eq (n : Int) : norm s108 [.v (.int .u64 n)] = some (0 ≤ n ∧ n < 18446744073709551616, .one (.fresh .u64 (limbs n.toNat))) := rfl
noncomputable def G108 : Gam := [(33, .body, norm s33)]
theorem G108_ok : GamOk Try.prog G108 := gamOk_cons sound_33 gamOk_nil
theorem k108_33 : lk G108 33 = some (.body, norm s33) := rfl
set_option maxHeartbeats 20000000 in
theorem w108 (n : Int) (hp : 0 ≤ n ∧ n < 18446744073709551616) : awp ty G108 (code Try.f108) (retP ty Try.f108.results.toList (.one (.fresh .u64 (limbs n.toNat)))) (entry 0 [.v (.int .u64 n)]) [] := by
  unfold code
  simp only [Try.f108, Option.getD_some]
  all_goals repeat' (first
    | ((first
       | (with_reducible refine ops_k ?_; intro X hX)
       | (with_reducible refine opsN_k ?_; intro X hX)
       | (with_reducible show awp _ _ _ _ (keepL _ _) _)
       | with_reducible refine awp_cond_k ?_
       | (with_reducible refine Brk_i ?_ ?_ <;> intro hb <;> (try simp only [hb]) <;> have hq := hb <;> try simp only [decide_eq_true_eq, decide_eq_false_iff_not, gt_iff_lt, ge_iff_le, Int.not_lt, Int.not_le, beq_iff_eq, beq_eq_false_iff_ne, Bool.not_eq_true', Bool.not_eq_false', Bool.and_eq_true, Bool.or_eq_true, Bool.and_eq_false_imp, Bool.or_eq_false_iff, ne_eq, Classical.not_not] at hq)
       | with_reducible refine retP_ret_i ?_
       | with_reducible refine retP_normal_i ?_
       | (with_reducible (show bindG _ _ _ _ _); simp only [hall])) <;> try simp only [Go.AM.S1, Go.AM.S2, Go.AM.S3, Go.AM.S4, Go.AM.S5, Go.AM.S6, Go.AM.S7, Go.AM.S8, Go.AM.S9, Nat.reduceAdd, Nat.reduceMul, Nat.reduceSub, ↓reduceIte, Nat.reduceEqDiff, Nat.reduceLT, Nat.reduceLeDiff, reduceCtorEq, Int.reduceBEq, Int.reduceBNe, Nat.reduceBEq, Int.reduceEq, Int.reduceToNat, Int.reduceLE, Int.reduceLT, Nat.reduceDiv, Int.reduceAdd, Int.reduceSub, Int.reduceMul, Int.reduceNeg, Int.reduceGT, Int.reduceGE, Nat.reduceMod, k108_33, s33_eq, s33_nil1, ty_26, ty_42, sz_one, toInts])
    | (with_reducible refine hX _ _ ?_; clear hX X)
    | (with_reducible refine ops_nil_i ?_; try clear hall all)
    | (with_reducible refine opsN_nil_i ?_; try clear hall all)
    | (with_reducible refine hK _ _ ?_; clear hK K)
    | with_reducible refine thenP_normal_i ?_
    | (with_reducible refine zzr1 _ _ ?_; try clear zzr1 Kzzr1)
    | (with_reducible refine zzr0 _ _ ?_; try clear zzr0 Kzzr0)
    | (with_reducible refine awp_seq_l (a := .region 1 _ _) [2] ?_; intro Kzzr1 zzr1)
    | (with_reducible refine awp_seq_l (a := .region 0 _ _) [0] ?_; intro Kzzr0 zzr0)
    | (with_reducible refine awp_seq_k ?_; intro K hK)
    | (with_reducible refine awp_region_a ?_; intro all hall K hK)
    | (with_reducible refine awp_draw_n ?_ ?_; kernel_rfl; intro all hall K hK)
    | (with_reducible refine Chk_i ?_ ?_)
    | (with_reducible refine keysC_i ?_; kernel_rfl)
    | (with_reducible first | refine awp_block_i ?_ | refine awp_skip_i ?_ | refine awp_ret_i ?_ | refine awp_exit_i ?_ | refine thenP_ret_i ?_ | refine thenP_exit_i ?_ | refine lpP_ret_i ?_ | refine lpP_exit_i ?_ | refine unrP_succ_i ?_ | refine unrP_ret_i ?_ | refine unrP_exit_i ?_ | refine blockP_normal_i ?_ | refine blockP_ret_i ?_)
    | (with_reducible refine blockP_exit_i ?_; simp only [↓reduceIte, Nat.reduceEqDiff])
    | with_reducible refine lpP_normal_i ?_)
  all_goals (try clear zzr0; try clear Kzzr0)
  all_goals (try clear zzr1; try clear Kzzr1)
  all_goals first
    | exact lim_one hp
    | exact ⟨lim_one hp, Nat.le_of_ble_eq_true rfl⟩
theorem sound_108 : Sound Try.prog 108 .body (norm s108) := by
  refine sound_norm (sound_body Try.func108 (show Try.f108.body = some (code Try.f108) from rfl) (by kernel_rfl) tysOk G108_ok (drawOk_ok (by kernel_rfl) tysOk G108_ok) (by kernel_rfl) fun ds p r hs hp => ?_)
  unfold s108 at hs
  split at hs
  · cases hs; exact ⟨Nat.le_of_ble_eq_true (by kernel_rfl), w108 _ hp⟩
  · cases hs
end Go.Proofs.AMT
