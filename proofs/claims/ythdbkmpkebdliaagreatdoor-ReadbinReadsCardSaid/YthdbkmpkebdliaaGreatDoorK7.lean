/- Part 7 of the proof: own text. -/
import Derived.Test.YthdbkmpkebdliaaGreatDoorK6
set_option linter.all false
set_option maxHeartbeats 20000000
set_option maxRecDepth 20000
namespace Go.Proofs.AMT
open Go.AM Go.AM.LN
attribute [local congr] bindO_congr bindS_congr bindG_congr awpOps_congr aOne_congr awp_congr aCond_congr awpD_congr dOne_congr keysB_congr nOne_congr thenP_congr blockP_congr Chk_congr Brk_congr
noncomputable def s132 : Cs := fun ds => match ds with
  | [.sl .u64 a, .v (.int .i64 n)] => some ((lim a ∧ a.length ≤ 100000000) ∧ 0 ≤ n ∧ (sz a : Int) + (n + 63) / 64 ≤ 2000, .many [.fresh .u64 (limbs (val a * 2 ^ n.toNat)), .v (.int .i64 0)])
  | _ => none
theorem s132_eq (a : List Int) (n : Int) : norm s132 [.sl .u64 a, .v (.int .i64 n)] = s132 [.sl .u64 a, .v (.int .i64 n)] := rfl
theorem s132_nil1  (n : Int) : norm s132 [.v (.slice none 0 0), .v (.int .i64 n)] = s132 [.sl .u64 [], .v (.int .i64 n)] := rfl
noncomputable def G132 : Gam := [(193, .body, norm s193)]
theorem G132_ok : Gk Tryz.prog G132 := Gc sound_193 Gn
theorem k132_193 : lk G132 193 = some (.body, norm s193) := rfl
theorem wk132 (a : List Int) (n : Int) (hp : (lim a ∧ a.length ≤ 100000000) ∧ 0 ≤ n ∧ (sz a : Int) + (n + 63) / 64 ≤ 2000) : awp ty G132 (code Tryz.f132) (retP ty Tryz.f132.results.toList (.many [.fresh .u64 (limbs (val a * 2 ^ n.toNat)), .v (.int .i64 0)])) (entry 0 [.sl .u64 a, .v (.int .i64 n)]) [] := by
  unfold code
  simp only [Tryz.f132, Option.getD_some]
  have za := sz_le a
  have ya := Lz hp.1.1
  obtain ⟨k, rfl⟩ := Int.eq_ofNat_of_zero_le hp.2.1
  have hk : k = 64 * (k / 64) + k % 64 := by omega
  generalize hw : k / 64 = w at *
  generalize hs : k % 64 = s at *
  have hd : (k : Int).tdiv 64 = (w : Int) := by rw [Int.tdiv_eq_ediv_of_nonneg (by omega)]; omega
  have hm : (k : Int).tmod 64 = (s : Int) := by rw [Int.tmod_eq_emod_of_nonneg (by omega)]; omega
  have h63 : ((k : Int) + 63).tdiv 64 = ((k : Int) + 63) / 64 := by rw [Int.tdiv_eq_ediv_of_nonneg (by omega)]
  have g1 : decide ((k : Int) < 0) = false := by simp
  have g2 : decide ((w : Int) > 2000) = false := by simp only [decide_eq_false_iff_not]; omega
  have g3 : decide (((limbs (val a)).length : Int) + ((k : Int) + 63) / 64 > 2000) = false := by simp only [decide_eq_false_iff_not]; omega
  have m1 : min s 64 = s := by omega
  have m2 : (64 - (s : Int)).toNat = 64 - s := by omega
  have m3 : min (64 - s) 64 = 64 - s := by omega
  obtain ⟨N, hN⟩ : ∃ N, N = w + ((limbs (val a)).length + 1) := ⟨_, rfl⟩
  have lenW : (((limbs (val a)).length : Int) + (w : Int) + 1).toNat = N := by omega
  have copyW := copy0 hN
  have h0 := shl0_mk (va := val a) hN
  have hwN := h0.wN
  generalize List.replicate w 0 ++ limbs (val a) ++ [0] = o0 at *
  all_goals repeat' (first
 | ((with_reducible first | (refine ZA ?_; intro X hX) | (refine ZB ?_; intro X hX) | (show awp _ _ _ _ (Kp _ _) _) | (refine hX _ _ _ _ ?_; clear hX X) | (refine ZC ?_; intro X hX) | refine ZD ?_ | refine ZE ?_ | refine ZF ?_ | ((show Bg _ _ _ _ _); simp only [hall]) | (refine ZR ?_ ?_ <;> intro hb <;> (try simp only [hb]) <;> have hq := hb <;> try simp only [HQ] at hq)) <;> try simp only [Go.AM.SS, Nat.reduceAdd, Nat.reduceMul, Nat.reduceSub, ↓reduceIte, Nat.reduceEqDiff, Nat.reduceLT, Nat.reduceLeDiff, reduceCtorEq, Int.reduceBEq, Int.reduceBNe, Nat.reduceBEq, Int.reduceEq, Int.reduceToNat, Int.reduceLE, Int.reduceLT, Nat.reduceDiv, Int.reduceAdd, Int.reduceSub, Int.reduceMul, Int.reduceNeg, Int.reduceGT, Int.reduceGE, Nat.reduceMod, k132_193, s193.eq_1, s193_eq, s193_nil1, ty_3, ty_22, ty_50, Ts hp.1.1, hd, hm, g1, g2, g3, aOne_copy, bindP_some, spCopy, spAppend, intSl, yInts, layAt, IntKind.bits, m1, m2, m3, h63, lenW, copyW, List.length_replicate, h0.len])
 | with_reducible first
 | (refine hX _ _ ?_; clear hX X)
 | (refine ZI ?_; try clear hall all)
 | (refine ZJ ?_; kernel_rfl)
 | ((show clashK _ _ _ = true); kernel_rfl)
 | (refine ZG ?_; try clear hall all)
 | (refine ZH ?_; try clear hall all)
 | (refine hK _ _ ?_; clear hK K)
 | refine ZL ?_
 | (refine v_0 _ _ ?_; try clear v_0 V_0)
 | (refine v_1 _ _ ?_; try clear v_1 V_1)
 | (refine v_2 _ _ ?_; try clear v_2 V_2)
 | (refine v_3 _ _ ?_; try clear v_3 V_3)
    | (with_reducible refine awp_lp (σ := Nat × List Int) (fun s1 => w ≤ s1.1 ∧ s1.1 < N ∧ s1.2.length = N ∧ lim s1.2 ∧ s1.2.take (s1.1 + 1) = o0.take (s1.1 + 1) ∧ val (s1.2.drop (s1.1 + 1)) = val (o0.drop (s1.1 + 1)) * 2 ^ s + (o0.getD s1.1 0).toNat / 2 ^ (64 - s)) (fun s1 => [(1, .v (.int .i64 k)), (6, .ow 560), (7, .v (.int .i64 s)), (8, .v (.int .i64 s1.1))]) (fun s1 => [(560, .ints .u64 s1.2, false)]) (fun s1 => s1.1) (N - 1, o0) ?_ ?_ (fun s1 hs1 => ?_))
 | ((first | refine qr 15 [4,5] ?_ | refine Zh (a := .seq (.region 8 _ _) _) [6] ?_ | refine qr 7 [1,6] ?_ | refine qr 6 [0,1,6] ?_ | refine qb 0 [0,1] ?_ | refine qr 1 [0,1] ?_ | refine qr 0 [0,1] ?_); intro V_0 v_0)
 | ((first | refine Zh (a := .seq (.region 10 _ _) _) [1,6,7] ?_ | refine qr 9 [1,6,7,45] ?_ | refine qr 8 [1,6,7] ?_ | refine qr 3 [4,5] ?_ | refine qr 5 [4,5] ?_ | refine qr 4 [0,1,16] ?_ | refine qr 2 [0,1,13] ?_); intro V_1 v_1)
 | ((first | refine qb 2 [1,6,7,8] ?_ | refine Zh (a := .seq (.region 11 _ _) _) [1,6,7,8] ?_ | refine qr 10 [1,6,7,8] ?_); intro V_2 v_2)
 | ((first | refine qr 11 [1,6,7,8,52] ?_); intro V_3 v_3)
 | (refine ZM ?_; intro K hK)
 | (refine ZN ?_; intro all hall K hK)
 | (refine Da (id := 13) ?_ ?_; kernel_rfl; intro all hall K hK)
 | (refine ZO ?_ ?_; kernel_rfl; intro all hall K hK)
 | (refine ZQ ?_ ?_)
 | (refine ZK ?_; kernel_rfl)
 | (refine Zg ?_; simp only [↓reduceIte, Nat.reduceEqDiff])
 | refine ZS ?_ | refine ZT ?_ | refine ZU ?_ | refine ZV ?_ | refine ZW ?_ | refine ZX ?_ | refine ZY ?_ | refine ZZ ?_ | refine Za ?_ | refine Ze ?_ | refine Zf ?_)
  all_goals try clear v_3 V_3
  all_goals try clear v_2 V_2
  all_goals try clear v_1 V_1
  all_goals try clear v_0 V_0
  all_goals (try (rcases s1 with ⟨i, o⟩))
  all_goals (try dsimp only at *)
  all_goals (try simp only [inR])
  all_goals (try omega)
  · refine ⟨by omega, by omega, h0.len, h0.lm, trivial, ?_⟩
    rw [show N - 1 + 1 = N by omega, List.drop_of_length_le (by rw [h0.len]; exact Nat.le_refl _), h0.top]
    simp [val]
  · (refine Eo [(560, 560)] rfl ?_ ?_ <;> simp only [Me, Sl, AvLe, lk, ↓reduceIte, Nat.reduceEqDiff, Option.isSome_some, and_self, and_true, true_and, reduceCtorEq, List.map_nil, List.map_cons, Option.some.injEq, AV.v.injEq, Value.int.injEq, Value.bool.injEq, AV.rd.injEq, AV.ow.injEq, AV.al.injEq, AV.ref.injEq] <;> omega)
  · have e0 : ((i : Int) - 1).toNat = i - 1 := by omega
    have e1 := take_getD hs1.2.2.2.2.1 (i := i) (by omega)
    have e2 := take_getD hs1.2.2.2.2.1 (i := i - 1) (by omega)
    rw [e0, e1, e2, shl_word (Mg h0.lm) (Mg h0.lm) (by omega)]
    have h3 := shl_step (z := (o0.getD (i - 1) 0).toNat / 2 ^ (64 - s)) h0.lm (by omega) (by rw [hs1.2.2.1, h0.len]) (show s ≤ 64 by omega) hs1.2.2.2.2.2
    have h4 := or_lim (o0.getD i 0 * 2 ^ s % 18446744073709551616) (o0.getD (i - 1) 0 / 2 ^ (64 - s))
    rw [shl_word (Mg h0.lm) (Mg h0.lm) (by omega)] at h4
    refine ⟨(i - 1, o.set i (((o0.getD i 0).toNat * 2 ^ s % 18446744073709551616 + (o0.getD (i - 1) 0).toNat / 2 ^ (64 - s) : Nat) : Int)), by (refine Eo [(560, 560)] rfl ?_ ?_ <;> simp only [Me, Sl, AvLe, lk, ↓reduceIte, Nat.reduceEqDiff, Option.isSome_some, and_self, and_true, true_and, reduceCtorEq, List.map_nil, List.map_cons, Option.some.injEq, AV.v.injEq, Value.int.injEq, Value.bool.injEq, AV.rd.injEq, AV.ow.injEq, AV.al.injEq, AV.ref.injEq] <;> omega), ⟨by dsimp only; omega, by dsimp only; omega, by simp [hs1.2.2.1], lim_set hs1.2.2.2.1 h4 i, ?_, ?_⟩, by dsimp only; omega⟩
    · dsimp only
      rw [show i - 1 + 1 = i by omega, take_set_lt (Nat.le_refl _)]
      exact take_le_of hs1.2.2.2.2.1 (by omega)
    · dsimp only
      rw [show i - 1 + 1 = i by omega]
      exact h3
  all_goals first
    | (have hi : i = w := by omega
       subst hi
       have h5 := shl_last h0.lm (by omega) (by rw [hs1.2.2.1, h0.len]) (show s ≤ 64 by omega) hs1.2.2.2.2.1 hs1.2.2.2.2.2
       have h6 := sz_le (o.set i (o.getD i 0 * 2 ^ s % 18446744073709551616))
       have h7 : (o.set i (o.getD i 0 * 2 ^ s % 18446744073709551616)).length = N := by simp [hs1.2.2.1]
       have h8 := lim_set hs1.2.2.2.1 h5.2.2 i
       have h7a := hs1.2.2.1
       have h9 := shl_val (s := s) h0 h7 (by rw [take_set_lt (Nat.le_refl _)]; exact take_le_of hs1.2.2.2.2.1 (by omega)) h5.2.1
       first
         | omega
         | (rw [Ts h8, h9, hk]; done)
         | (rw [Ts h8, h9, hk]; all_goals (first | rfl | exact ⟨rfl, rfl⟩)))
    | (have h6 := sz_le o0
       have h7 := h0.len
       omega)
    | (have hs0 : s = 0 := by omega
       rw [Ts h0.lm, h0.vl, hk, hs0, Nat.add_zero, Nat.mul_comm]; done)
    | (have hs0 : s = 0 := by omega
       refine ⟨?_, rfl⟩
       rw [Ts h0.lm, h0.vl, hk, hs0, Nat.add_zero, Nat.mul_comm])
theorem sound_132 : Sound Tryz.prog 132 .body (norm s132) := by
  refine sb Tryz.func132 rfl (by kernel_rfl) G132_ok (by kernel_rfl) fun ds p r hs hp => ?_
  unfold s132 at hs
  split at hs
  · cases hs; exact ⟨Nat.le_of_ble_eq_true (by kernel_rfl), wk132 _ _ hp⟩
  · cases hs
noncomputable def s170 : Cs := fun ds => match ds with
  | [.v (.int .u64 b), .v (.int .i64 n)] => some (b = 5 ∧ 0 ≤ n ∧ n ≤ 12000, .one (.fresh .u64 (limbs (5 ^ n.toNat))))
  | _ => none
theorem s170_eq (b : Int) (n : Int) : norm s170 [.v (.int .u64 b), .v (.int .i64 n)] = s170 [.v (.int .u64 b), .v (.int .i64 n)] := rfl
noncomputable def r170 (N : Nat) : Cs := fun ds => match ds with
  | [.v (.int .u64 b), .v (.int .i64 n)] => some ((b = 5 ∧ 0 ≤ n ∧ n ≤ 12000) ∧ n < (N : Int), .one (.fresh .u64 (limbs (5 ^ n.toNat))))
  | _ => none
theorem r170_eq (N : Nat) (b : Int) (n : Int) : norm (r170 N) [.v (.int .u64 b), .v (.int .i64 n)] = some ((b = 5 ∧ 0 ≤ n ∧ n ≤ 12000) ∧ n < (N : Int), .one (.fresh .u64 (limbs (5 ^ n.toNat)))) := rfl
noncomputable def G170 (N : Nat) : Gam := [(170, .body, norm (r170 N)), (97, .body, norm s97), (163, .body, norm s163)]
theorem G170_ok (N : Nat) (h : Sound Tryz.prog 170 .body (norm (r170 N))) : Gk Tryz.prog (G170 N) := Gc h (Gc sound_97 (Gc sound_163 (Gn)))
theorem k170_170 (N : Nat) : lk (G170 N) 170 = some (.body, norm (r170 N)) := rfl
theorem k170_97 (N : Nat) : lk (G170 N) 97 = some (.body, norm s97) := rfl
theorem k170_163 (N : Nat) : lk (G170 N) 163 = some (.body, norm s163) := rfl
theorem wk170 (N : Nat) (b : Int) (n : Int) (hp : (b = 5 ∧ 0 ≤ n ∧ n ≤ 12000) ∧ n < ((N + 1 : Nat) : Int)) : awp ty (G170 N) (code Tryz.f170) (retP ty Tryz.f170.results.toList (.one (.fresh .u64 (limbs (5 ^ n.toNat))))) (entry 0 [.v (.int .u64 b), .v (.int .i64 n)]) [] := by
  unfold code
  simp only [Tryz.f170, Option.getD_some]
  obtain ⟨⟨rfl, h0, h1⟩, hN⟩ := hp
  obtain ⟨m, rfl⟩ := Int.eq_ofNat_of_zero_le h0
  have hmr : (m : Int).tmod 2 = ((m % 2 : Nat) : Int) := by rw [Int.tmod_eq_emod_of_nonneg (by omega)]; omega
  have hmq : (m : Int).tdiv 2 = ((m / 2 : Nat) : Int) := by rw [Int.tdiv_eq_ediv_of_nonneg (by omega)]; omega
  have l5 := @pw_len 5 (m / 2) (by omega)
  have l5' := @pw_len 5 (m / 2 * 2) (by omega)
  all_goals repeat' (first
 | ((with_reducible first | (refine ZA ?_; intro X hX) | (show awp _ _ _ _ (Kp _ _) _) | refine ZD ?_ | refine ZE ?_ | refine ZF ?_ | ((show Bg _ _ _ _ _); simp only [hall]) | (refine ZR ?_ ?_ <;> intro hb <;> (try simp only [hb]) <;> have hq := hb <;> try simp only [HQ] at hq)) <;> try simp only [Go.AM.SS, Nat.reduceAdd, Nat.reduceMul, Nat.reduceSub, ↓reduceIte, Nat.reduceEqDiff, Nat.reduceLT, Nat.reduceLeDiff, reduceCtorEq, Int.reduceBEq, Int.reduceBNe, Nat.reduceBEq, Int.reduceEq, Int.reduceToNat, Int.reduceLE, Int.reduceLT, Nat.reduceDiv, Int.reduceAdd, Int.reduceSub, Int.reduceMul, Int.reduceNeg, Int.reduceGT, Int.reduceGE, Nat.reduceMod, k170_170, r170_eq, k170_97, s97.eq_1, s97_eq, k170_163, s163.eq_1, s163_eq, s163_nil1, s163_nil2, s163_nil3, ty_3, ty_22, ty_50, toInts, Vl, hmr, hmq, Int.toNat_natCast, val5])
 | with_reducible first
 | (refine hX _ _ ?_; clear hX X)
 | (refine ZG ?_; try clear hall all)
 | (refine hK _ _ ?_; clear hK K)
 | refine ZL ?_
 | (refine v_0 _ _ ?_; try clear v_0 V_0)
 | (refine v_1 _ _ ?_; try clear v_1 V_1)
 | ((first | refine qr 7 [4] ?_ | refine Zh (a := .seq (.region 5 _ _) _) [6] ?_ | refine qr 4 [0,1,6] ?_ | refine qr 3 [0,1,5] ?_ | refine Zh (a := .seq (.region 1 _ _) _) [0,1] ?_ | refine qr 0 [0,1] ?_); intro V_0 v_0)
 | ((first | refine qr 5 [0,6,19] ?_ | refine qr 2 [4] ?_ | refine qr 1 [0,1,8] ?_); intro V_1 v_1)
 | (refine ZM ?_; intro K hK)
 | (refine ZN ?_; intro all hall K hK)
 | (refine ZQ ?_ ?_)
 | refine ZT ?_ | refine ZU ?_ | refine ZW ?_)
  all_goals try clear v_1 V_1
  all_goals try clear v_0 V_0
  all_goals (try simp only [inR])
  all_goals first
    | omega
    | (rw [show m = 0 by omega]; done)
    | (rw [show m = 0 by omega]; rfl)
    | exact ⟨Ml _, by omega⟩
    | exact ⟨⟨rfl, by omega, by omega⟩, by omega⟩
    | (rw [half_sq]; exact ⟨⟨Ml _, by omega⟩, lim_one (by omega)⟩)
    | (rw [pow_odd hq]; done)
    | (rw [pow_even hq]; done)
    | skip
theorem z170 : ∀ N : Nat, Sound Tryz.prog 170 .body (norm (r170 N))
  | 0 => by
    refine Sn ⟨Tryz.f170, Tryz.func170, by kernel_rfl, by kernel_rfl, fun ds p r hs hp w vs hT hr => ?_⟩
    unfold r170 at hs
    split at hs
    · cases hs; omega
    · cases hs
  | N + 1 => by
    have ih := z170 N
    refine Sn (sound_body Tryz.func170 (show Tryz.f170.body = some (code Tryz.f170) from rfl) (by kernel_rfl) tysOk (G170_ok N ih) (drawOk_ok (by kernel_rfl) tysOk (G170_ok N ih)) (by kernel_rfl) fun ds p r hs hp => ?_)
    unfold r170 at hs
    split at hs
    · cases hs; exact ⟨Nat.le_of_ble_eq_true (by kernel_rfl), wk170 N _ _ hp⟩
    · cases hs
theorem sound_170 : Sound Tryz.prog 170 .body (norm s170) := by
  obtain ⟨fn, h1, h2, h3, h4⟩ := z170 12001
  refine Sn ⟨fn, h1, h2, h3, fun ds p r hs hp w vs hT hr => ?_⟩
  unfold s170 at hs
  split at hs
  · cases hs; exact h4 _ _ _ (r170_eq 12001 _ _) ⟨hp, by omega⟩ w vs hT hr
  · cases hs
noncomputable def s100 : Cs := fun ds => match ds with
  | [.v (.int .i64 b), .v (.int .i64 n)] => some ((b = 2 ∨ b = 10) ∧ 0 ≤ n ∧ n ≤ 12000, .many [.fresh .u64 (limbs (b.toNat ^ n.toNat)), .v (.int .i64 0)])
  | _ => none
theorem s100_eq (b : Int) (n : Int) : norm s100 [.v (.int .i64 b), .v (.int .i64 n)] = s100 [.v (.int .i64 b), .v (.int .i64 n)] := rfl
noncomputable def G100 : Gam := [(97, .body, norm s97), (132, .body, norm s132), (170, .body, norm s170)]
theorem G100_ok : Gk Tryz.prog G100 := Gc sound_97 (Gc sound_132 (Gc sound_170 Gn))
theorem k100_97 : lk G100 97 = some (.body, norm s97) := rfl
theorem k100_132 : lk G100 132 = some (.body, norm s132) := rfl
theorem k100_170 : lk G100 170 = some (.body, norm s170) := rfl
theorem wk100 (b : Int) (n : Int) (hp : (b = 2 ∨ b = 10) ∧ 0 ≤ n ∧ n ≤ 12000) : awp ty G100 (code Tryz.f100) (retP ty Tryz.f100.results.toList (.many [.fresh .u64 (limbs (b.toNat ^ n.toNat)), .v (.int .i64 0)])) (entry 0 [.v (.int .i64 b), .v (.int .i64 n)]) [] := by
  unfold code
  simp only [Tryz.f100, Option.getD_some]
  obtain ⟨hb, h0, h1⟩ := hp
  have l5 := pow5_len n.toNat
  have l1 : (limbs 1).length ≤ 1 := by decide +kernel
  rcases hb with rfl | rfl
  all_goals repeat' (first
 | ((with_reducible first | (refine ZA ?_; intro X hX) | (show awp _ _ _ _ (Kp _ _) _) | refine ZD ?_ | refine ZE ?_ | refine ZF ?_ | ((show Bg _ _ _ _ _); simp only [hall]) | (refine ZR ?_ ?_ <;> intro hb <;> (try simp only [hb]) <;> have hq := hb <;> try simp only [HQ] at hq)) <;> try simp only [Go.AM.SS, Nat.reduceAdd, Nat.reduceMul, Nat.reduceSub, ↓reduceIte, Nat.reduceEqDiff, Nat.reduceLT, Nat.reduceLeDiff, reduceCtorEq, Int.reduceBEq, Int.reduceBNe, Nat.reduceBEq, Int.reduceEq, Int.reduceToNat, Int.reduceLE, Int.reduceLT, Nat.reduceDiv, Int.reduceAdd, Int.reduceSub, Int.reduceMul, Int.reduceNeg, Int.reduceGT, Int.reduceGE, Nat.reduceMod, k100_97, s97.eq_1, s97_eq, k100_132, s132.eq_1, s132_eq, s132_nil1, k100_170, s170.eq_1, s170_eq, ty_3, ty_22, ty_50, toInts, Vl])
 | with_reducible first
 | (refine hX _ _ ?_; clear hX X)
 | (refine ZG ?_; try clear hall all)
 | (refine hK _ _ ?_; clear hK K)
 | refine ZL ?_
 | (refine v_0 _ _ ?_; try clear v_0 V_0)
 | (refine v_1 _ _ ?_; try clear v_1 V_1)
 | (refine v_2 _ _ ?_; try clear v_2 V_2)
 | ((first | refine qr 10 [4,5] ?_ | refine qb 0 [1] ?_ | refine qr 0 [0,1] ?_); intro V_0 v_0)
 | ((first | refine qr 3 [4,5] ?_ | refine qr 5 [4,5] ?_ | refine qr 7 [4,5] ?_ | refine qr 9 [4,5] ?_ | refine qr 8 [1,30] ?_ | refine qr 6 [0,1,22] ?_ | refine qr 4 [0,1,19] ?_ | refine Zh (a := .seq (.region 1 _ _) _) [0,1,6] ?_); intro V_1 v_1)
 | ((first | refine qr 1 [0,1,6] ?_); intro V_2 v_2)
 | (refine ZM ?_; intro K hK)
 | (refine ZN ?_; intro all hall K hK)
 | (refine ZQ ?_ ?_)
 | (refine Zg ?_; simp only [↓reduceIte, Nat.reduceEqDiff])
 | refine ZS ?_ | refine ZT ?_ | refine ZU ?_ | refine ZV ?_ | refine ZW ?_ | refine ZX ?_ | refine Ze ?_ | refine Zf ?_)
  all_goals try clear v_2 V_2
  all_goals try clear v_1 V_1
  all_goals try clear v_0 V_0
  all_goals (try simp only [inR])
  all_goals first
    | omega
    | exact ⟨⟨Ml _, by omega⟩, by omega, by rw [sz_limbs]; omega⟩
    | (rw [Nat.one_mul]; done)
    | (rw [Nat.one_mul]; rfl)
    | (rw [pow_5_2]; done)
    | (rw [pow_5_2]; rfl)
    | skip
theorem sound_100 : Sound Tryz.prog 100 .body (norm s100) := by
  refine sb Tryz.func100 rfl (by kernel_rfl) G100_ok (by kernel_rfl) fun ds p r hs hp => ?_
  unfold s100 at hs
  split at hs
  · cases hs; exact ⟨Nat.le_of_ble_eq_true (by kernel_rfl), wk100 _ _ hp⟩
  · cases hs
noncomputable def s164 : Cs := fun ds => match ds with
  | [.sl .u64 a, .sl .u64 b] => some ((lim a ∧ a.length ≤ 45000000) ∧ (lim b ∧ b.length ≤ 45000000) ∧ sz a + sz b ≤ 2000, .many [.fresh .u64 (limbs (val a * val b)), .v (.int .i64 0)])
  | _ => none
theorem s164_eq (a : List Int) (b : List Int) : norm s164 [.sl .u64 a, .sl .u64 b] = s164 [.sl .u64 a, .sl .u64 b] := rfl
theorem s164_nil1  (b : List Int) : norm s164 [.v (.slice none 0 0), .sl .u64 b] = s164 [.sl .u64 [], .sl .u64 b] := rfl
theorem s164_nil2 (a : List Int)  : norm s164 [.sl .u64 a, .v (.slice none 0 0)] = s164 [.sl .u64 a, .sl .u64 []] := rfl
theorem s164_nil3   : norm s164 [.v (.slice none 0 0), .v (.slice none 0 0)] = s164 [.sl .u64 [], .sl .u64 []] := rfl
noncomputable def G164 : Gam := [(163, .body, norm s163), (193, .body, norm s193)]
theorem G164_ok : Gk Tryz.prog G164 := Gc sound_163 (Gc sound_193 Gn)
theorem k164_163 : lk G164 163 = some (.body, norm s163) := rfl
theorem k164_193 : lk G164 193 = some (.body, norm s193) := rfl
theorem wk164 (a : List Int) (b : List Int) (hp : (lim a ∧ a.length ≤ 45000000) ∧ (lim b ∧ b.length ≤ 45000000) ∧ sz a + sz b ≤ 2000) : awp ty G164 (code Tryz.f164) (retP ty Tryz.f164.results.toList (.many [.fresh .u64 (limbs (val a * val b)), .v (.int .i64 0)])) (entry 0 [.sl .u64 a, .sl .u64 b]) [] := by
  unfold code
  simp only [Tryz.f164, Option.getD_some]
  have za := sz_le a
  have zb := sz_le b
  have ya := Lz hp.1.1
  have yb := Lz hp.2.1.1
  all_goals repeat' (first
 | ((with_reducible first | (refine ZA ?_; intro X hX) | (refine ZB ?_; intro X hX) | (show awp _ _ _ _ (Kp _ _) _) | refine ZD ?_ | refine ZE ?_ | refine ZF ?_ | ((show Bg _ _ _ _ _); simp only [hall]) | (refine ZR ?_ ?_ <;> intro hb <;> (try simp only [hb]) <;> have hq := hb <;> try simp only [HQ] at hq)) <;> try simp only [Go.AM.SS, Nat.reduceAdd, Nat.reduceMul, Nat.reduceSub, ↓reduceIte, Nat.reduceEqDiff, Nat.reduceLT, Nat.reduceLeDiff, reduceCtorEq, Int.reduceBEq, Int.reduceBNe, Nat.reduceBEq, Int.reduceEq, Int.reduceToNat, Int.reduceLE, Int.reduceLT, Nat.reduceDiv, Int.reduceAdd, Int.reduceSub, Int.reduceMul, Int.reduceNeg, Int.reduceGT, Int.reduceGE, Nat.reduceMod, k164_163, s163.eq_1, s163_eq, s163_nil1, s163_nil2, s163_nil3, k164_193, s193.eq_1, s193_eq, s193_nil1, ty_3, ty_22, ty_50, Ts hp.1.1, Ts hp.2.1.1, Vl])
 | with_reducible first
 | (refine hX _ _ ?_; clear hX X)
 | (refine ZG ?_; try clear hall all)
 | (refine ZH ?_; try clear hall all)
 | (refine hK _ _ ?_; clear hK K)
 | refine ZL ?_
 | (refine v_0 _ _ ?_; try clear v_0 V_0)
 | (refine v_1 _ _ ?_; try clear v_1 V_1)
 | ((first | refine qr 4 [4,5] ?_ | refine Zh (a := .seq (.region 2 _ _) _) [0,1] ?_ | refine qr 1 [0,1] ?_ | refine qr 0 [0,1] ?_); intro V_0 v_0)
 | ((first | refine qr 3 [4,5] ?_ | refine qr 2 [0,1,19] ?_); intro V_1 v_1)
 | (refine ZM ?_; intro K hK)
 | (refine ZN ?_; intro all hall K hK)
 | (refine ZO ?_ ?_; kernel_rfl; intro all hall K hK)
 | (refine ZQ ?_ ?_)
 | (refine ZK ?_; kernel_rfl)
 | refine ZT ?_ | refine ZU ?_ | refine ZW ?_)
  all_goals try clear v_1 V_1
  all_goals try clear v_0 V_0
  all_goals (try simp only [inR])
  all_goals first
    | omega
    | (exfalso; omega)
    | exact ⟨⟨Ml _, by omega⟩, Ml _, by omega⟩
    | skip
theorem sound_164 : Sound Tryz.prog 164 .body (norm s164) := by
  refine sb Tryz.func164 rfl (by kernel_rfl) G164_ok (by kernel_rfl) fun ds p r hs hp => ?_
  unfold s164 at hs
  split at hs
  · cases hs; exact ⟨Nat.le_of_ble_eq_true (by kernel_rfl), wk164 _ _ hp⟩
  · cases hs
noncomputable def s98 : Cs := fun ds => match ds with
  | [.sl .u64 a, .v (.int .i64 n)] => some ((lim a ∧ limbs (val a) = a ∧ a.length ≤ 1000) ∧ -12000 ≤ n ∧ n ≤ 12000, .many [.view .u64 (limbs (val a * 10 ^ n.toNat)), .view .u64 (limbs (10 ^ (-n).toNat))])
  | _ => none
theorem s98_eq (a : List Int) (n : Int) : norm s98 [.sl .u64 a, .v (.int .i64 n)] = s98 [.sl .u64 a, .v (.int .i64 n)] := rfl
theorem s98_nil1  (n : Int) : norm s98 [.v (.slice none 0 0), .v (.int .i64 n)] = s98 [.sl .u64 [], .v (.int .i64 n)] := rfl
noncomputable def G98 : Gam := [(97, .body, norm s97), (100, .body, norm s100), (164, .body, norm s164)]
theorem G98_ok : Gk Tryz.prog G98 := Gc sound_97 (Gc sound_100 (Gc sound_164 Gn))
theorem k98_97 : lk G98 97 = some (.body, norm s97) := rfl
theorem k98_100 : lk G98 100 = some (.body, norm s100) := rfl
theorem k98_164 : lk G98 164 = some (.body, norm s164) := rfl
theorem wk98 (a : List Int) (n : Int) (hp : (lim a ∧ limbs (val a) = a ∧ a.length ≤ 1000) ∧ -12000 ≤ n ∧ n ≤ 12000) : awp ty G98 (code Tryz.f98) (retP ty Tryz.f98.results.toList (.many [.view .u64 (limbs (val a * 10 ^ n.toNat)), .view .u64 (limbs (10 ^ (-n).toNat))])) (entry 0 [.sl .u64 a, .v (.int .i64 n)]) [] := by
  unfold code
  simp only [Tryz.f98, Option.getD_some]
  obtain ⟨la, h0, h1⟩ := hp
  have l10 := pow10_len (max n (0 - n)).toNat
  have i10 : (10 : Int).toNat = 10 := rfl
  all_goals repeat' (first
 | ((with_reducible first | (refine ZA ?_; intro X hX) | (show awp _ _ _ _ (Kp _ _) _) | refine ZD ?_ | refine ZE ?_ | refine ZF ?_ | ((show Bg _ _ _ _ _); simp only [hall]) | (refine ZR ?_ ?_ <;> intro hb <;> (try simp only [hb]) <;> have hq := hb <;> try simp only [HQ] at hq)) <;> try simp only [Go.AM.SS, Nat.reduceAdd, Nat.reduceMul, Nat.reduceSub, ↓reduceIte, Nat.reduceEqDiff, Nat.reduceLT, Nat.reduceLeDiff, reduceCtorEq, Int.reduceBEq, Int.reduceBNe, Nat.reduceBEq, Int.reduceEq, Int.reduceToNat, Int.reduceLE, Int.reduceLT, Nat.reduceDiv, Int.reduceAdd, Int.reduceSub, Int.reduceMul, Int.reduceNeg, Int.reduceGT, Int.reduceGE, Nat.reduceMod, k98_97, s97.eq_1, s97_eq, k98_100, s100.eq_1, s100_eq, k98_164, s164.eq_1, s164_eq, s164_nil1, s164_nil2, s164_nil3, ty_3, ty_22, ty_50, toInts, Vl, i10])
 | with_reducible first
 | (refine hX _ _ ?_; clear hX X)
 | (refine ZG ?_; try clear hall all)
 | (refine hK _ _ ?_; clear hK K)
 | refine ZL ?_
 | (refine v_0 _ _ ?_; try clear v_0 V_0)
 | (refine v_1 _ _ ?_; try clear v_1 V_1)
 | ((first | refine qr 5 [4,5] ?_ | refine qr 4 [8] ?_ | refine Zh (a := .seq (.region 2 _ _) _) [0,6] ?_ | refine qr 1 [0,1,6] ?_ | refine qr 0 [0,1] ?_); intro V_0 v_0)
 | ((first | refine qr 3 [4,5] ?_ | refine qr 2 [0,6,19] ?_); intro V_1 v_1)
 | (refine ZM ?_; intro K hK)
 | (refine ZN ?_; intro all hall K hK)
 | (refine ZQ ?_ ?_)
 | refine ZT ?_ | refine ZU ?_ | refine ZW ?_)
  all_goals try clear v_1 V_1
  all_goals try clear v_0 V_0
  all_goals (try simp only [inR])
  all_goals first
    | omega
    | exact ⟨.inr rfl, by omega, by omega⟩
    | (rw [show n.toNat = 0 by omega, Nat.pow_zero, Nat.mul_one, la.2.1, show (max n (0 - n)).toNat = (-n).toNat by omega]; exact ⟨rfl, rfl⟩)
    | exact ⟨⟨la.1, by omega⟩, ⟨Ml _, by omega⟩, by have := sz_le a; rw [sz_limbs]; omega⟩
    | (rw [show (max n (0 - n)).toNat = n.toNat by omega, show (-n).toNat = 0 by omega, Nat.pow_zero]; exact ⟨rfl, rfl⟩)
    | skip
theorem sound_98 : Sound Tryz.prog 98 .body (norm s98) := by
  refine sb Tryz.func98 rfl (by kernel_rfl) G98_ok (by kernel_rfl) fun ds p r hs hp => ?_
  unfold s98 at hs
  split at hs
  · cases hs; exact ⟨Nat.le_of_ble_eq_true (by kernel_rfl), wk98 _ _ hp⟩
  · cases hs
noncomputable def s133 : Cs := fun ds => match ds with
  | [.sl .u64 a] => some (lim a ∧ a.length ≤ 100000000, .one (.v (.int .i64 (blen (val a)))))
  | _ => none
theorem s133_eq (a : List Int) : norm s133 [.sl .u64 a] = s133 [.sl .u64 a] := rfl
theorem s133_nil1  : norm s133 [.v (.slice none 0 0)] = s133 [.sl .u64 []] := rfl
noncomputable def G133 : Gam := [(112, .body, norm s112), (193, .body, norm s193)]
theorem G133_ok : Gk Tryz.prog G133 := Gc sound_112 (Gc sound_193 Gn)
theorem k133_112 : lk G133 112 = some (.body, norm s112) := rfl
theorem k133_193 : lk G133 193 = some (.body, norm s193) := rfl
theorem wk133 (a : List Int) (hp : lim a ∧ a.length ≤ 100000000) : awp ty G133 (code Tryz.f133) (retP ty Tryz.f133.results.toList (.one (.v (.int .i64 (blen (val a)))))) (entry 0 [.sl .u64 a]) [] := by
  unfold code
  simp only [Tryz.f133, Option.getD_some]
  have za := sz_le a
  all_goals repeat' (first
 | ((with_reducible first | (refine ZA ?_; intro X hX) | (show awp _ _ _ _ (Kp _ _) _) | refine ZD ?_ | refine ZE ?_ | refine ZF ?_ | ((show Bg _ _ _ _ _); simp only [hall]) | (refine ZR ?_ ?_ <;> intro hb <;> (try simp only [hb]) <;> have hq := hb <;> try simp only [HQ] at hq)) <;> try simp only [Go.AM.SS, Nat.reduceAdd, Nat.reduceMul, Nat.reduceSub, ↓reduceIte, Nat.reduceEqDiff, Nat.reduceLT, Nat.reduceLeDiff, reduceCtorEq, Int.reduceBEq, Int.reduceBNe, Nat.reduceBEq, Int.reduceEq, Int.reduceToNat, Int.reduceLE, Int.reduceLT, Nat.reduceDiv, Int.reduceAdd, Int.reduceSub, Int.reduceMul, Int.reduceNeg, Int.reduceGT, Int.reduceGE, Nat.reduceMod, k133_112, s112.eq_1, s112_eq, k133_193, s193.eq_1, s193_eq, s193_nil1, ty_3, ty_22, ty_50])
 | with_reducible first
 | (refine hX _ _ ?_; clear hX X)
 | (refine ZG ?_; try clear hall all)
 | (refine hK _ _ ?_; clear hK K)
 | refine ZL ?_
 | (refine v_0 _ _ ?_; try clear v_0 V_0)
 | (refine v_1 _ _ ?_; try clear v_1 V_1)
 | ((first | refine qr 4 [2] ?_ | refine Zh (a := .seq (.region 2 _ _) _) [0,3] ?_ | refine qr 1 [0,3] ?_ | refine qr 0 [0] ?_); intro V_0 v_0)
 | ((first | refine qr 3 [2] ?_ | refine qr 2 [0,3,7] ?_); intro V_1 v_1)
 | (refine ZM ?_; intro K hK)
 | (refine ZN ?_; intro all hall K hK)
 | (refine ZQ ?_ ?_)
 | refine ZT ?_ | refine ZU ?_ | refine ZW ?_)
  all_goals try clear v_1 V_1
  all_goals try clear v_0 V_0
  all_goals (try simp only [inR])
  all_goals (try omega)
  · have h0 := (sz_zero hp.1).1 (by omega)
    rw [h0]; rfl
  all_goals have e : ((sz a : Int) - 1).toNat = sz a - 1 := by omega
  all_goals rw [e]
  all_goals have hg := Mg hp.1 (i := sz a - 1)
  · exact hg
  all_goals have h1 := blen_top hp.1 (by omega)
  all_goals have h2 : blen (a.getD (sz a - 1) 0).toNat ≤ 64 := blen_lt.2 (by omega)
  · omega
  · refine congrArg _ ?_
    omega
theorem sound_133 : Sound Tryz.prog 133 .body (norm s133) := by
  refine sb Tryz.func133 rfl (by kernel_rfl) G133_ok (by kernel_rfl) fun ds p r hs hp => ?_
  unfold s133 at hs
  split at hs
  · cases hs; exact ⟨Nat.le_of_ble_eq_true (by kernel_rfl), wk133 _ hp⟩
  · cases hs
noncomputable def s141 : Cs := fun ds => match ds with
  | [.sl .u64 a, .sl .u64 b] => some ((lim a ∧ a.length ≤ 100000000) ∧ lim b ∧ b.length ≤ 100000000, .one (.v (.int .i64 (cmpI (val a) (val b)))))
  | _ => none
theorem s141_eq (a : List Int) (b : List Int) : norm s141 [.sl .u64 a, .sl .u64 b] = s141 [.sl .u64 a, .sl .u64 b] := rfl
theorem s141_nil1  (b : List Int) : norm s141 [.v (.slice none 0 0), .sl .u64 b] = s141 [.sl .u64 [], .sl .u64 b] := rfl
theorem s141_nil2 (a : List Int)  : norm s141 [.sl .u64 a, .v (.slice none 0 0)] = s141 [.sl .u64 a, .sl .u64 []] := rfl
theorem s141_nil3   : norm s141 [.v (.slice none 0 0), .v (.slice none 0 0)] = s141 [.sl .u64 [], .sl .u64 []] := rfl
noncomputable def G141 : Gam := [(193, .body, norm s193)]
theorem G141_ok : Gk Tryz.prog G141 := Gc sound_193 Gn
theorem k141_193 : lk G141 193 = some (.body, norm s193) := rfl
theorem wk141 (a : List Int) (b : List Int) (hp : (lim a ∧ a.length ≤ 100000000) ∧ lim b ∧ b.length ≤ 100000000) : awp ty G141 (code Tryz.f141) (retP ty Tryz.f141.results.toList (.one (.v (.int .i64 (cmpI (val a) (val b)))))) (entry 0 [.sl .u64 a, .sl .u64 b]) [] := by
  unfold code
  simp only [Tryz.f141, Option.getD_some]
  have za := sz_le a
  have zb := sz_le b
  have ya := Lz hp.1.1
  have yb := Lz hp.2.1
  have la := Ml (val a)
  have lb := Ml (val b)
  all_goals repeat' (first
 | ((with_reducible first | (refine ZA ?_; intro X hX) | (refine ZB ?_; intro X hX) | (show awp _ _ _ _ (Kp _ _) _) | refine ZD ?_ | refine ZE ?_ | refine ZF ?_ | ((show Bg _ _ _ _ _); simp only [hall]) | (refine ZR ?_ ?_ <;> intro hb <;> (try simp only [hb]) <;> have hq := hb <;> try simp only [HQ] at hq)) <;> try simp only [Go.AM.SS, Nat.reduceAdd, Nat.reduceMul, Nat.reduceSub, ↓reduceIte, Nat.reduceEqDiff, Nat.reduceLT, Nat.reduceLeDiff, reduceCtorEq, Int.reduceBEq, Int.reduceBNe, Nat.reduceBEq, Int.reduceEq, Int.reduceToNat, Int.reduceLE, Int.reduceLT, Nat.reduceDiv, Int.reduceAdd, Int.reduceSub, Int.reduceMul, Int.reduceNeg, Int.reduceGT, Int.reduceGE, Nat.reduceMod, k141_193, s193.eq_1, s193_eq, s193_nil1, ty_3, ty_22, ty_50, Ts hp.1.1, Ts hp.2.1])
 | with_reducible first
 | (refine hX _ _ ?_; clear hX X)
 | (refine ZG ?_; try clear hall all)
 | (refine ZH ?_; try clear hall all)
 | (refine hK _ _ ?_; clear hK K)
 | refine ZL ?_
 | (refine v_0 _ _ ?_; try clear v_0 V_0)
 | (refine v_1 _ _ ?_; try clear v_1 V_1)
 | (refine v_2 _ _ ?_; try clear v_2 V_2)
 | (refine v_3 _ _ ?_; try clear v_3 V_3)
    | (with_reducible refine awp_lp (σ := Nat) (fun n => n ≤ (limbs (val a)).length ∧ (limbs (val a)).drop n = (limbs (val b)).drop n) (fun n => [(0, .rd .u64 (limbs (val a))), (1, .rd .u64 (limbs (val b))), (5, .v (.int .i64 ((n : Int) - 1)))]) (fun _ => []) (fun n => n) (limbs (val a)).length ?_ ?_ (fun s hs => ?_))
 | ((first | refine qr 13 [4] ?_ | refine Zh (a := .seq (.region 6 _ _) _) [] ?_ | refine Zh (a := .seq (.region 2 _ _) _) [0,1] ?_ | refine qr 1 [0,1] ?_ | refine qr 0 [0,1] ?_); intro V_0 v_0)
 | ((first | refine qb 1 [0,1,5] ?_ | refine Zh (a := .seq (.region 7 _ _) _) [0,1,5] ?_ | refine qr 6 [0,1,5] ?_ | refine qr 5 [4] ?_ | refine Zh (a := .seq (.region 3 _ _) _) [] ?_ | refine qr 2 [0,1,18] ?_); intro V_1 v_1)
 | ((first | refine qr 12 [4] ?_ | refine Zh (a := .seq (.region 10 _ _) _) [] ?_ | refine qr 9 [0,1,5,39] ?_ | refine qr 7 [0,1,5,28] ?_ | refine qr 4 [4] ?_ | refine qr 3 [23] ?_); intro V_2 v_2)
 | ((first | refine qr 11 [4] ?_ | refine qr 10 [48] ?_); intro V_3 v_3)
 | (refine ZM ?_; intro K hK)
 | (refine ZN ?_; intro all hall K hK)
 | (refine ZO ?_ ?_; kernel_rfl; intro all hall K hK)
 | (refine ZQ ?_ ?_)
 | (refine ZK ?_; kernel_rfl)
 | (refine Zg ?_; simp only [↓reduceIte, Nat.reduceEqDiff])
 | refine ZS ?_ | refine ZT ?_ | refine ZU ?_ | refine ZV ?_ | refine ZW ?_ | refine ZX ?_ | refine ZY ?_ | refine ZZ ?_ | refine Za ?_ | refine Ze ?_ | refine Zf ?_)
  all_goals try clear v_3 V_3
  all_goals try clear v_2 V_2
  all_goals try clear v_1 V_1
  all_goals try clear v_0 V_0
  all_goals (try simp only [inR])
  all_goals (try omega)
  · have h := len_lt (x := val a) (y := val b) (by omega)
    rw [cmpI_lt h]
  · have h := len_lt (x := val b) (y := val a) (by omega)
    rw [cmpI_gt h]
  · exact ⟨Nat.le_refl _, by rw [List.drop_length, List.drop_eq_nil_of_le (by omega)]⟩
  · exact Ent.refl _ _
  · have e : ((s : Int) - 1).toNat = s - 1 := by omega
    rw [e] at hq
    have h := cmp_lt la lb (i := s - 1) (by omega) (by omega) (by rw [show s - 1 + 1 = s by omega]; exact hs.2) hq
    rw [Vl, Vl] at h
    rw [cmpI_lt h]
  · have e : ((s : Int) - 1).toNat = s - 1 := by omega
    simp only [e] at *
    have h := cmp_lt lb la (i := s - 1) (by omega) (by omega) (by rw [show s - 1 + 1 = s by omega]; exact hs.2.symm) (by omega)
    rw [Vl, Vl] at h
    rw [cmpI_gt h]
  · refine ⟨s - 1, by (refine Eo [] rfl ?_ ?_ <;> simp only [Me, Sl, AvLe, lk, ↓reduceIte, Nat.reduceEqDiff, Option.isSome_some, and_self, and_true, true_and, reduceCtorEq, List.map_nil, List.map_cons, Option.some.injEq, AV.v.injEq, Value.int.injEq, Value.bool.injEq, AV.rd.injEq, AV.ow.injEq, AV.al.injEq, AV.ref.injEq] <;> omega), ⟨by omega, ?_⟩, by omega⟩
    have e : ((s : Int) - 1).toNat = s - 1 := by omega
    rw [e] at hq
    exact drop_step (by omega) (by omega) (by rw [show s - 1 + 1 = s by omega]; exact hs.2) hq
  · have h0 : s = 0 := by omega
    subst h0
    have := limbs_inj (x := val a) (y := val b) (by simpa using hs.2)
    rw [cmpI_eq this]
theorem sound_141 : Sound Tryz.prog 141 .body (norm s141) := by
  refine sb Tryz.func141 rfl (by kernel_rfl) G141_ok (by kernel_rfl) fun ds p r hs hp => ?_
  unfold s141 at hs
  split at hs
  · cases hs; exact ⟨Nat.le_of_ble_eq_true (by kernel_rfl), wk141 _ _ hp⟩
  · cases hs
noncomputable def s165 : Cs := fun ds => match ds with
  | [.sl .u64 a, .sl .u64 b, .v (.int .i64 n)] => some ((limbs (val a) = a ∧ lim a) ∧ (limbs (val b) = b ∧ lim b) ∧ (a.length ≤ 90000000 ∧ b.length ≤ 90000000) ∧ (0 ≤ n → (sz a : Int) + (n + 63) / 64 ≤ 2000) ∧ (n < 0 → (sz b : Int) + (-n + 63) / 64 ≤ 2000) ∧ -9000000 < n ∧ n < 9000000, .many [.view .u64 (limbs (val a * 2 ^ n.toNat)), .view .u64 (limbs (val b * 2 ^ (-n).toNat))])
  | _ => none
theorem s165_eq (a : List Int) (b : List Int) (n : Int) : norm s165 [.sl .u64 a, .sl .u64 b, .v (.int .i64 n)] = s165 [.sl .u64 a, .sl .u64 b, .v (.int .i64 n)] := rfl
theorem s165_nil1  (b : List Int) (n : Int) : norm s165 [.v (.slice none 0 0), .sl .u64 b, .v (.int .i64 n)] = s165 [.sl .u64 [], .sl .u64 b, .v (.int .i64 n)] := rfl
theorem s165_nil2 (a : List Int)  (n : Int) : norm s165 [.sl .u64 a, .v (.slice none 0 0), .v (.int .i64 n)] = s165 [.sl .u64 a, .sl .u64 [], .v (.int .i64 n)] := rfl
theorem s165_nil3   (n : Int) : norm s165 [.v (.slice none 0 0), .v (.slice none 0 0), .v (.int .i64 n)] = s165 [.sl .u64 [], .sl .u64 [], .v (.int .i64 n)] := rfl
noncomputable def G165 : Gam := [(132, .body, norm s132)]
theorem G165_ok : Gk Tryz.prog G165 := Gc sound_132 Gn
theorem k165_132 : lk G165 132 = some (.body, norm s132) := rfl
theorem wk165 (a : List Int) (b : List Int) (n : Int) (hp : (limbs (val a) = a ∧ lim a) ∧ (limbs (val b) = b ∧ lim b) ∧ (a.length ≤ 90000000 ∧ b.length ≤ 90000000) ∧ (0 ≤ n → (sz a : Int) + (n + 63) / 64 ≤ 2000) ∧ (n < 0 → (sz b : Int) + (-n + 63) / 64 ≤ 2000) ∧ -9000000 < n ∧ n < 9000000) : awp ty G165 (code Tryz.f165) (retP ty Tryz.f165.results.toList (.many [.view .u64 (limbs (val a * 2 ^ n.toNat)), .view .u64 (limbs (val b * 2 ^ (-n).toNat))])) (entry 0 [.sl .u64 a, .sl .u64 b, .v (.int .i64 n)]) [] := by
  unfold code
  simp only [Tryz.f165, Option.getD_some]
  have en : 0 - n = -n := by omega
  all_goals repeat' (first
 | ((with_reducible first | (refine ZA ?_; intro X hX) | (show awp _ _ _ _ (Kp _ _) _) | refine ZD ?_ | refine ZE ?_ | refine ZF ?_ | ((show Bg _ _ _ _ _); simp only [hall]) | (refine ZR ?_ ?_ <;> intro hb <;> (try simp only [hb]) <;> have hq := hb <;> try simp only [HQ] at hq)) <;> try simp only [Go.AM.SS, Nat.reduceAdd, Nat.reduceMul, Nat.reduceSub, ↓reduceIte, Nat.reduceEqDiff, Nat.reduceLT, Nat.reduceLeDiff, reduceCtorEq, Int.reduceBEq, Int.reduceBNe, Nat.reduceBEq, Int.reduceEq, Int.reduceToNat, Int.reduceLE, Int.reduceLT, Nat.reduceDiv, Int.reduceAdd, Int.reduceSub, Int.reduceMul, Int.reduceNeg, Int.reduceGT, Int.reduceGE, Nat.reduceMod, k165_132, s132.eq_1, s132_eq, s132_nil1, ty_3, ty_22, ty_50, en])
 | with_reducible first
 | (refine hX _ _ ?_; clear hX X)
 | (refine ZG ?_; try clear hall all)
 | (refine hK _ _ ?_; clear hK K)
 | refine ZL ?_
 | (refine v_0 _ _ ?_; try clear v_0 V_0)
 | (refine v_1 _ _ ?_; try clear v_1 V_1)
 | ((first | refine qr 4 [6,7] ?_ | refine Zh (a := .seq (.region 1 _ _) _) [0,1] ?_ | refine qr 0 [0,1,2] ?_); intro V_0 v_0)
 | ((first | refine qr 1 [0,1,2,9] ?_); intro V_1 v_1)
 | (refine ZM ?_; intro K hK)
 | (refine ZN ?_; intro all hall K hK)
 | (refine ZQ ?_ ?_)
 | refine ZT ?_ | refine ZU ?_ | refine ZW ?_)
  all_goals try clear v_1 V_1
  all_goals try clear v_0 V_0
  all_goals (try simp only [inR])
  all_goals first
    | omega
    | exact ⟨⟨hp.1.2, by omega⟩, by omega, hp.2.2.2.1 (by omega)⟩
    | exact ⟨⟨hp.2.1.2, by omega⟩, by omega, hp.2.2.2.2.1 (by omega)⟩
    | (rw [show (-n).toNat = 0 by omega, Nat.pow_zero, Nat.mul_one, hp.2.1.1]; done)
    | (rw [show (-n).toNat = 0 by omega, Nat.pow_zero, Nat.mul_one, hp.2.1.1]; exact ⟨rfl, rfl⟩)
    | (rw [show n.toNat = 0 by omega, Nat.pow_zero, Nat.mul_one, hp.1.1]; done)
    | (rw [show n.toNat = 0 by omega, Nat.pow_zero, Nat.mul_one, hp.1.1]; exact ⟨rfl, rfl⟩)
    | skip
theorem sound_165 : Sound Tryz.prog 165 .body (norm s165) := by
  refine sb Tryz.func165 rfl (by kernel_rfl) G165_ok (by kernel_rfl) fun ds p r hs hp => ?_
  unfold s165 at hs
  split at hs
  · cases hs; exact ⟨Nat.le_of_ble_eq_true (by kernel_rfl), wk165 _ _ _ hp⟩
  · cases hs
noncomputable def s214 : Cs := fun ds => match ds with
  | [.v (.int .i64 n), .v (.bool s)] => some (1 ≤ n ∧ n ≤ 6, .many [.v (.agg #[.int .u64 (w4 (packS n 1 s false (2 ^ (fp n).toNat - 1) (fe n + 1 - fp n)) 0), .int .u64 (w4 (packS n 1 s false (2 ^ (fp n).toNat - 1) (fe n + 1 - fp n)) 1), .int .u64 (w4 (packS n 1 s false (2 ^ (fp n).toNat - 1) (fe n + 1 - fp n)) 2), .int .u64 (w4 (packS n 1 s false (2 ^ (fp n).toNat - 1) (fe n + 1 - fp n)) 3)]), .v (.int .i64 0)])
  | _ => none
theorem s214_eq (n : Int) (s : Bool) : norm s214 [.v (.int .i64 n), .v (.bool s)] = s214 [.v (.int .i64 n), .v (.bool s)] := rfl
noncomputable def G214 : Gam := [(71, .body, norm s71), (91, .body, norm s91), (189, .body, norm s189)]
theorem G214_ok : Gk Tryz.prog G214 := Gc sound_71 (Gc sound_91 (Gc sound_189 Gn))
theorem k214_71 : lk G214 71 = some (.body, norm s71) := rfl
theorem k214_91 : lk G214 91 = some (.body, norm s91) := rfl
theorem k214_189 : lk G214 189 = some (.body, norm s189) := rfl
theorem wk214 (n : Int) (s : Bool) (hp : 1 ≤ n ∧ n ≤ 6) : awp ty G214 (code Tryz.f214) (retP ty Tryz.f214.results.toList (.many [.v (.agg #[.int .u64 (w4 (packS n 1 s false (2 ^ (fp n).toNat - 1) (fe n + 1 - fp n)) 0), .int .u64 (w4 (packS n 1 s false (2 ^ (fp n).toNat - 1) (fe n + 1 - fp n)) 1), .int .u64 (w4 (packS n 1 s false (2 ^ (fp n).toNat - 1) (fe n + 1 - fp n)) 2), .int .u64 (w4 (packS n 1 s false (2 ^ (fp n).toNat - 1) (fe n + 1 - fp n)) 3)]), .v (.int .i64 0)])) (entry 0 [.v (.int .i64 n), .v (.bool s)]) [] := by
  unfold code
  simp only [Tryz.f214, Option.getD_some]
  obtain ⟨F1, F2, F3, F4, F5, F6, F7, F8, F9, F10, F11⟩ := bfmt hp
  have hI := infoV_in (n := n) (by omega)
  have hO : okB n 0 = true := by rw [okB0, decide_eq_true hp]
  have hM := V4_w4 (n := 2 ^ (fp n).toNat - 1) (by
    have : 2 ^ (fp n).toNat ≤ 2 ^ 256 := Nat.pow_le_pow_right (by omega) (by omega)
    have := Nat.two_pow_pos (fp n).toNat
    omega)
  have hbl := blen_ones (fp n).toNat
  all_goals repeat' (first
 | ((with_reducible first | (refine ZA ?_; intro X hX) | (refine ZB ?_; intro X hX) | (show awp _ _ _ _ (Kp _ _) _) | (refine hX _ _ _ _ ?_; clear hX X) | (refine ZC ?_; intro X hX) | refine ZD ?_ | refine ZE ?_ | refine ZF ?_ | ((show Bg _ _ _ _ _); simp only [hall]) | (refine ZR ?_ ?_ <;> intro hb <;> (try simp only [hb]) <;> have hq := hb <;> try simp only [HQ] at hq)) <;> try simp only [Go.AM.SS, Nat.reduceAdd, Nat.reduceMul, Nat.reduceSub, ↓reduceIte, Nat.reduceEqDiff, Nat.reduceLT, Nat.reduceLeDiff, reduceCtorEq, Int.reduceBEq, Int.reduceBNe, Nat.reduceBEq, Int.reduceEq, Int.reduceToNat, Int.reduceLE, Int.reduceLT, Nat.reduceDiv, Int.reduceAdd, Int.reduceSub, Int.reduceMul, Int.reduceNeg, Int.reduceGT, Int.reduceGE, Nat.reduceMod, k214_71, s71.eq_1, s71_eq, k214_91, s91.eq_1, s91_eq, k214_189, s189.eq_1, s189_eq, ty_3, ty_4, ty_9, ty_22, ty_24, ty_33, ty_95, hI, infoT, hO, V4_x, hM])
 | with_reducible first
 | (refine hX _ _ ?_; clear hX X)
 | (refine ZI ?_; try clear hall all)
 | (refine ZJ ?_; kernel_rfl)
 | ((show clashK _ _ _ = true); kernel_rfl)
 | (refine ZG ?_; try clear hall all)
 | (refine ZH ?_; try clear hall all)
 | (refine hK _ _ ?_; clear hK K)
 | refine ZL ?_
 | (refine v_0 _ _ ?_; try clear v_0 V_0)
 | (refine v_1 _ _ ?_; try clear v_1 V_1)
 | ((first | refine qr 4 [4,5] ?_ | refine Zh (a := .seq (.region 2 _ _) _) [0,1,4,6] ?_ | refine qr 1 [0,1,4,6,7] ?_ | refine qr 0 [0,1,4] ?_); intro V_0 v_0)
 | ((first | refine qr 3 [4,5] ?_ | refine qr 2 [0,1,4,6,15] ?_); intro V_1 v_1)
 | (refine ZM ?_; intro K hK)
 | (refine ZN ?_; intro all hall K hK)
 | (refine Da (id := 4) ?_ ?_; kernel_rfl; intro all hall K hK)
 | (refine ZO ?_ ?_; kernel_rfl; intro all hall K hK)
 | (refine ZQ ?_ ?_)
 | (refine ZK ?_; kernel_rfl)
 | refine ZT ?_ | refine ZU ?_ | refine ZW ?_)
  all_goals try clear v_1 V_1
  all_goals try clear v_0 V_0
  all_goals (try simp only [inR])
  all_goals first
    | omega
    | exact ⟨hp, ⟨Wl _ _, Wl _ _, Wl _ _, Wl _ _⟩, .inl ⟨rfl, rfl, by omega, by omega, .inl (by omega)⟩⟩
    | skip
theorem sound_214 : Sound Tryz.prog 214 .body (norm s214) := by
  refine sb Tryz.func214 rfl (by kernel_rfl) G214_ok (by kernel_rfl) fun ds p r hs hp => ?_
  unfold s214 at hs
  split at hs
  · cases hs; exact ⟨Nat.le_of_ble_eq_true (by kernel_rfl), wk214 _ _ hp⟩
  · cases hs
noncomputable def s215 : Cs := fun ds => match ds with
  | [.v (.int .i64 d), .v (.bool s)] => some (True, .one (.v (.bool (infS d s))))
  | _ => none
theorem s215_eq (d : Int) (s : Bool) : norm s215 [.v (.int .i64 d), .v (.bool s)] = s215 [.v (.int .i64 d), .v (.bool s)] := rfl
noncomputable def G215 : Gam := []
theorem G215_ok : Gk Tryz.prog G215 := Gn
theorem wk215 (d : Int) (s : Bool) (hp : True) : awp ty G215 (code Tryz.f215) (retP ty Tryz.f215.results.toList (.one (.v (.bool (infS d s))))) (entry 0 [.v (.int .i64 d), .v (.bool s)]) [] := by
  unfold code
  simp only [Tryz.f215, Option.getD_some]
  all_goals repeat' (first
 | ((with_reducible first | (refine ZA ?_; intro X hX) | (show awp _ _ _ _ (Kp _ _) _) | refine ZD ?_ | refine ZE ?_ | refine ZF ?_ | ((show Bg _ _ _ _ _); simp only [hall]) | (refine ZR ?_ ?_ <;> intro hb <;> (try simp only [hb]) <;> have hq := hb <;> try simp only [HQ] at hq)) <;> try simp only [Go.AM.SS, Nat.reduceAdd, Nat.reduceMul, Nat.reduceSub, ↓reduceIte, Nat.reduceEqDiff, Nat.reduceLT, Nat.reduceLeDiff, reduceCtorEq, Int.reduceBEq, Int.reduceBNe, Nat.reduceBEq, Int.reduceEq, Int.reduceToNat, Int.reduceLE, Int.reduceLT, Nat.reduceDiv, Int.reduceAdd, Int.reduceSub, Int.reduceMul, Int.reduceNeg, Int.reduceGT, Int.reduceGE, Nat.reduceMod, ty_3, ty_4])
 | with_reducible first
 | (refine hX _ _ ?_; clear hX X)
 | (refine ZG ?_; try clear hall all)
 | (refine hK _ _ ?_; clear hK K)
 | refine ZL ?_
 | (refine v_0 _ _ ?_; try clear v_0 V_0)
 | ((first | refine qr 1 [4] ?_ | refine qr 0 [0,1] ?_); intro V_0 v_0)
 | (refine ZM ?_; intro K hK)
 | (refine ZN ?_; intro all hall K hK)
 | (refine ZQ ?_ ?_)
 | refine ZT ?_ | refine ZU ?_ | refine ZW ?_)
  all_goals try clear v_0 V_0
  all_goals (unfold infS; refine congrArg _ ?_; repeat' split)
  all_goals first
    | (exfalso; omega)
    | rfl
    | (cases s <;> first | rfl | simp at * | (exfalso; omega))
theorem sound_215 : Sound Tryz.prog 215 .body (norm s215) := by
  refine sb Tryz.func215 rfl (by kernel_rfl) G215_ok (by kernel_rfl) fun ds p r hs hp => ?_
  unfold s215 at hs
  split at hs
  · cases hs; exact ⟨Nat.le_of_ble_eq_true (by kernel_rfl), wk215 _ _ hp⟩
  · cases hs
noncomputable def s166 : Cs := fun ds => match ds with
  | [.v (.int .i64 n), .v (.int .i64 d), .v (.bool s)] => some (1 ≤ n ∧ n ≤ 6, .many [.v (.agg #[.int .u64 (w4 (ovV n d s) 0), .int .u64 (w4 (ovV n d s) 1), .int .u64 (w4 (ovV n d s) 2), .int .u64 (w4 (ovV n d s) 3)]), .v (.int .i64 10), .v (.int .i64 0)])
  | _ => none
theorem s166_eq (n : Int) (d : Int) (s : Bool) : norm s166 [.v (.int .i64 n), .v (.int .i64 d), .v (.bool s)] = s166 [.v (.int .i64 n), .v (.int .i64 d), .v (.bool s)] := rfl
noncomputable def G166 : Gam := [(71, .body, norm s71), (214, .body, norm s214), (215, .body, norm s215)]
theorem G166_ok : Gk Tryz.prog G166 := Gc sound_71 (Gc sound_214 (Gc sound_215 Gn))
theorem k166_71 : lk G166 71 = some (.body, norm s71) := rfl
theorem k166_214 : lk G166 214 = some (.body, norm s214) := rfl
theorem k166_215 : lk G166 215 = some (.body, norm s215) := rfl
theorem wk166 (n : Int) (d : Int) (s : Bool) (hp : 1 ≤ n ∧ n ≤ 6) : awp ty G166 (code Tryz.f166) (retP ty Tryz.f166.results.toList (.many [.v (.agg #[.int .u64 (w4 (ovV n d s) 0), .int .u64 (w4 (ovV n d s) 1), .int .u64 (w4 (ovV n d s) 2), .int .u64 (w4 (ovV n d s) 3)]), .v (.int .i64 10), .v (.int .i64 0)])) (entry 0 [.v (.int .i64 n), .v (.int .i64 d), .v (.bool s)]) [] := by
  unfold code
  simp only [Tryz.f166, Option.getD_some]
  obtain ⟨F1, F2, F3, F4, F5, F6, F7, F8, F9, F10, F11⟩ := bfmt hp
  have ov1 : infS d s = true → ovV n d s = packS n 2 s false 0 0 := fun h => if_pos h
  have ov0 : infS d s = false → ovV n d s = packS n 1 s false (2 ^ (fp n).toNat - 1) (fe n + 1 - fp n) := fun h => if_neg (by rw [h]; exact Bool.false_ne_true)
  rcases Bool.eq_false_or_eq_true (infS d s) with hi | hi
  all_goals first
    | rw [ov1 hi]
    | rw [ov0 hi]
  all_goals repeat' (first
 | ((with_reducible first | (refine ZA ?_; intro X hX) | (show awp _ _ _ _ (Kp _ _) _) | refine ZD ?_ | refine ZE ?_ | refine ZF ?_ | ((show Bg _ _ _ _ _); simp only [hall]) | (refine ZR ?_ ?_ <;> intro hb <;> (try simp only [hb]) <;> have hq := hb <;> try simp only [HQ] at hq)) <;> try simp only [Go.AM.SS, Nat.reduceAdd, Nat.reduceMul, Nat.reduceSub, ↓reduceIte, Nat.reduceEqDiff, Nat.reduceLT, Nat.reduceLeDiff, reduceCtorEq, Int.reduceBEq, Int.reduceBNe, Nat.reduceBEq, Int.reduceEq, Int.reduceToNat, Int.reduceLE, Int.reduceLT, Nat.reduceDiv, Int.reduceAdd, Int.reduceSub, Int.reduceMul, Int.reduceNeg, Int.reduceGT, Int.reduceGE, Nat.reduceMod, k166_71, s71.eq_1, s71_eq, k166_214, s214.eq_1, s214_eq, k166_215, s215.eq_1, s215_eq, ty_3, ty_4, ty_22, ty_24, ty_33, hi, V4_x])
 | with_reducible first
 | (refine hX _ _ ?_; clear hX X)
 | (refine ZG ?_; try clear hall all)
 | (refine hK _ _ ?_; clear hK K)
 | refine ZL ?_
 | (refine v_0 _ _ ?_; try clear v_0 V_0)
 | (refine v_1 _ _ ?_; try clear v_1 V_1)
 | ((first | refine qr 4 [6,7,8] ?_ | refine Zh (a := .seq (.region 2 _ _) _) [6,9,10] ?_ | refine qr 1 [0,1,2,6,9,10] ?_ | refine qr 0 [0,1,2,6] ?_); intro V_0 v_0)
 | ((first | refine qr 2 [0,2,6,9,10,19] ?_); intro V_1 v_1)
 | (refine ZM ?_; intro K hK)
 | (refine ZN ?_; intro all hall K hK)
 | (refine ZQ ?_ ?_)
 | refine ZT ?_ | refine ZU ?_ | refine ZW ?_)
  all_goals try clear v_1 V_1
  all_goals try clear v_0 V_0
  all_goals first
    | omega
    | exact ⟨hp, .inr (.inl ⟨rfl, rfl, rfl, rfl⟩)⟩
    | skip
theorem sound_166 : Sound Tryz.prog 166 .body (norm s166) := by
  refine sb Tryz.func166 rfl (by kernel_rfl) G166_ok (by kernel_rfl) fun ds p r hs hp => ?_
  unfold s166 at hs
  split at hs
  · cases hs; exact ⟨Nat.le_of_ble_eq_true (by kernel_rfl), wk166 _ _ _ hp⟩
  · cases hs
noncomputable def s218 : Cs := fun ds => match ds with
  | [.v (.int .u64 x)] => some (0 ≤ x ∧ x < 18446744073709551616, .one (.v (.int .i64 (64 - blen x.toNat))))
  | _ => none
theorem s218_eq (x : Int) : norm s218 [.v (.int .u64 x)] = s218 [.v (.int .u64 x)] := rfl
noncomputable def G218 : Gam := [(112, .body, norm s112)]
theorem G218_ok : Gk Tryz.prog G218 := Gc sound_112 Gn
theorem k218_112 : lk G218 112 = some (.body, norm s112) := rfl
theorem wk218 (x : Int) (hp : 0 ≤ x ∧ x < 18446744073709551616) : awp ty G218 (code Tryz.f218) (retP ty Tryz.f218.results.toList (.one (.v (.int .i64 (64 - blen x.toNat))))) (entry 0 [.v (.int .u64 x)]) [] := by
  unfold code
  simp only [Tryz.f218, Option.getD_some]
  all_goals repeat' (first
 | ((with_reducible first | (refine ZA ?_; intro X hX) | (show awp _ _ _ _ (Kp _ _) _) | refine ZD ?_ | refine ZE ?_ | refine ZF ?_ | ((show Bg _ _ _ _ _); simp only [hall]) | (refine ZR ?_ ?_ <;> intro hb <;> (try simp only [hb]) <;> have hq := hb <;> try simp only [HQ] at hq)) <;> try simp only [Go.AM.SS, Nat.reduceAdd, Nat.reduceMul, Nat.reduceSub, ↓reduceIte, Nat.reduceEqDiff, Nat.reduceLT, Nat.reduceLeDiff, reduceCtorEq, Int.reduceBEq, Int.reduceBNe, Nat.reduceBEq, Int.reduceEq, Int.reduceToNat, Int.reduceLE, Int.reduceLT, Nat.reduceDiv, Int.reduceAdd, Int.reduceSub, Int.reduceMul, Int.reduceNeg, Int.reduceGT, Int.reduceGE, Nat.reduceMod, k218_112, s112.eq_1, s112_eq, ty_3, ty_22])
 | with_reducible first
 | (refine hX _ _ ?_; clear hX X)
 | (refine ZG ?_; try clear hall all)
 | (refine hK _ _ ?_; clear hK K)
 | refine ZL ?_
 | (refine v_0 _ _ ?_; try clear v_0 V_0)
 | ((first | refine qr 1 [2] ?_ | refine qr 0 [0] ?_); intro V_0 v_0)
 | (refine ZM ?_; intro K hK)
 | (refine ZN ?_; intro all hall K hK)
 | (refine ZQ ?_ ?_)
 | refine ZT ?_ | refine ZU ?_ | refine ZW ?_)
  all_goals try clear v_0 V_0
  all_goals (try simp only [inR])
  all_goals (have h1 : blen x.toNat ≤ 64 := blen_lt.2 (by omega))
  all_goals omega
theorem sound_218 : Sound Tryz.prog 218 .body (norm s218) := by
  refine sb Tryz.func218 rfl (by kernel_rfl) G218_ok (by kernel_rfl) fun ds p r hs hp => ?_
  unfold s218 at hs
  split at hs
  · cases hs; exact ⟨Nat.le_of_ble_eq_true (by kernel_rfl), wk218 _ hp⟩
  · cases hs
noncomputable def s176 : Cs := fun ds => match ds with
  | [.v (.int .u64 h), .v (.int .u64 l), .v (.int .u64 y)] => some ((0 ≤ h ∧ h < y) ∧ (0 ≤ l ∧ l < 18446744073709551616) ∧ 0 < y ∧ y < 18446744073709551616, .many [.v (.int .u64 ((h.toNat * 18446744073709551616 + l.toNat) / y.toNat : Nat)), .v (.int .u64 ((h.toNat * 18446744073709551616 + l.toNat) % y.toNat : Nat))])
  | _ => none
theorem s176_eq (h : Int) (l : Int) (y : Int) : norm s176 [.v (.int .u64 h), .v (.int .u64 l), .v (.int .u64 y)] = s176 [.v (.int .u64 h), .v (.int .u64 l), .v (.int .u64 y)] := rfl
noncomputable def G176 : Gam := [(218, .body, norm s218)]
theorem G176_ok : Gk Tryz.prog G176 := Gc sound_218 Gn
theorem k176_218 : lk G176 218 = some (.body, norm s218) := rfl
theorem wk176 (h : Int) (l : Int) (y : Int) (hp : (0 ≤ h ∧ h < y) ∧ (0 ≤ l ∧ l < 18446744073709551616) ∧ 0 < y ∧ y < 18446744073709551616) : awp ty G176 (code Tryz.f176) (retP ty Tryz.f176.results.toList (.many [.v (.int .u64 ((h.toNat * 18446744073709551616 + l.toNat) / y.toNat : Nat)), .v (.int .u64 ((h.toNat * 18446744073709551616 + l.toNat) % y.toNat : Nat))])) (entry 0 [.v (.int .u64 h), .v (.int .u64 l), .v (.int .u64 y)]) [] := by
  unfold code
  simp only [Tryz.f176, Option.getD_some]
  obtain ⟨h, rfl⟩ := Int.eq_ofNat_of_zero_le hp.1.1
  obtain ⟨l, rfl⟩ := Int.eq_ofNat_of_zero_le hp.2.1.1
  obtain ⟨y, rfl⟩ := Int.eq_ofNat_of_zero_le (show 0 ≤ y by omega)
  have g1 : ((y : Int) == 0) = false := by simp only [beq_eq_false_iff_ne, ne_eq]; omega
  have g2 : decide ((y : Int) ≤ (h : Int)) = false := by simp only [decide_eq_false_iff_not]; omega
  obtain ⟨s, hse⟩ : ∃ s, 64 - blen y = s := ⟨_, rfl⟩
  obtain ⟨Y, y1, y0, u, n1, n0, Q1, R1, Q0, R0, D⟩ := d64_mk (h := h) (l := l) (y := y) (s := s) (by omega) (by omega) (by omega) (by omega) hse
  have hbl : blen y ≤ 64 := blen_lt.2 (by omega)
  have c1 : (64 - (blen y : Int)) % 18446744073709551616 = (s : Int) := by omega
  have hs63 := D.hs
  have m1 : min s 64 = s := by omega
  have m2 : ((64 - (s : Int)) % 18446744073709551616).toNat = 64 - s := by omega
  have m3 : min (64 - s) 64 = 64 - s := by omega
  have e2 : (y : Int) * 2 ^ s % 18446744073709551616 = (Y : Int) := by rw [castShl, D.hY, Nat.mod_eq_of_lt D.hYl.2]
  have e9 : (Y : Int) / 4294967296 = (y1 : Int) := by have := D.hy1; omega
  have e10 : AM.bits .and .u64 (Y : Int) 4294967295 = (y0 : Int) := by rw [and32 D.hYl.2, D.hy0]
  have e11 : AM.bits .or .u64 ((h : Int) * 2 ^ s % 18446744073709551616) ((l : Int) / 2 ^ (64 - s)) = (u : Int) := by
    rw [shl_word ⟨by omega, by omega⟩ ⟨by omega, by omega⟩ (by omega), Int.toNat_natCast, Int.toNat_natCast, D.hu]
  obtain ⟨w, hw⟩ : ∃ w, l * 2 ^ s % 18446744073709551616 = w := ⟨_, rfl⟩
  have hwl : w < 18446744073709551616 := by rw [← hw]; exact Nat.mod_lt _ (Nat.lt_of_lt_of_eq (Nat.two_pow_pos 64) rfl)
  have e12 : (l : Int) * 2 ^ s % 18446744073709551616 = (w : Int) := by rw [castShl, hw]
  have e13 : (w : Int) / 4294967296 = (n1 : Int) := by have := D.n1e; rw [hw] at this; omega
  have e14 : AM.bits .and .u64 (w : Int) 4294967295 = (n0 : Int) := by have := D.n0e; rw [hw] at this; rw [and32 hwl, this]
  have y1p : ((y1 : Int) == 0) = false := by have := D.y1l; simp only [beq_eq_false_iff_ne, ne_eq]; omega
  have ul := D.hul
  have Yl := D.hYl
  have y1l := D.y1l
  have y0l := D.y0l
  have n1l := D.n1l
  have n0l := D.n0l
  have R1e := D.R1e
  have R1l := D.R1l
  have R0e := D.R0e
  have R0l := D.R0l
  have Q1l := D.Q1l
  have Q0l := D.Q0l
  have Ye := D.Ye
  obtain ⟨i1, i2, i3, i4⟩ := kn_init (y1 := y1) (y0 := y0) (u := u) (n := n1) y1l.1 y0l n1l (by omega)
  rw [D.Q1e] at i1
  obtain ⟨j1, j2, j3, j4⟩ := kn_init (y1 := y1) (y0 := y0) (u := R1) (n := n0) y1l.1 y0l n0l (by omega)
  rw [D.Q0e] at j1
  have t1 : (u : Int).tdiv (y1 : Int) = ((u / y1 : Nat) : Int) := by rw [Int.tdiv_eq_ediv_of_nonneg (by omega)]; rfl
  have t2 : (R1 : Int).tdiv (y1 : Int) = ((R1 / y1 : Nat) : Int) := by rw [Int.tdiv_eq_ediv_of_nonneg (by omega)]; rfl
  have lt1 : (l : Int).tdiv (y : Int) = ((l / y : Nat) : Int) := by rw [Int.tdiv_eq_ediv_of_nonneg (by omega)]; rfl
  have lt2 : (l : Int).tmod (y : Int) = ((l % y : Nat) : Int) := by rw [Int.tmod_eq_emod_of_nonneg (by omega)]; rfl
  have quo := D.quo
  have rem := D.rem
  have kQ1 : ∀ {q r : Nat}, (q * y0 ≤ 4294967296 * r + n1 ∨ (q ≤ 4294967296 ∧ 4294967296 ≤ r)) → u = q * y1 + r → Q1 ≤ q → Q1 = q := fun hh he hq => by
    rcases hh with hh | ⟨h1, h2⟩
    · have := kn_fin y1l.1 he hh (by rw [D.Q1e]; exact hq); rw [D.Q1e] at this; exact this
    · have := kn_brk (n := n1) y1l.1 y0l he h1 h2 (by rw [D.Q1e]; exact hq); rw [D.Q1e] at this; exact this
  have kQ0 : ∀ {q r : Nat}, (q * y0 ≤ 4294967296 * r + n0 ∨ (q ≤ 4294967296 ∧ 4294967296 ≤ r)) → R1 = q * y1 + r → Q0 ≤ q → Q0 = q := fun hh he hq => by
    rcases hh with hh | ⟨h1, h2⟩
    · have := kn_fin y1l.1 he hh (by rw [D.Q0e]; exact hq); rw [D.Q0e] at this; exact this
    · have := kn_brk (n := n0) y1l.1 y0l he h1 h2 (by rw [D.Q0e]; exact hq); rw [D.Q0e] at this; exact this
  have kD1 : ∀ {q r : Nat}, (4294967296 ≤ q ∨ 4294967296 * r + n1 < q * y0) → u = q * y1 + r → Q1 ≤ q → Q1 ≤ q - 1 ∧ 1 ≤ q ∧ u = (q - 1) * y1 + (r + y1) := fun hh he hq => by
    have := kn_dec y1l.1 y0l n1l (by omega) he hh (by rw [D.Q1e]; exact hq); rw [D.Q1e] at this; exact this
  have kD0 : ∀ {q r : Nat}, (4294967296 ≤ q ∨ 4294967296 * r + n0 < q * y0) → R1 = q * y1 + r → Q0 ≤ q → Q0 ≤ q - 1 ∧ 1 ≤ q ∧ R1 = (q - 1) * y1 + (r + y1) := fun hh he hq => by
    have := kn_dec y1l.1 y0l n0l (by omega) he hh (by rw [D.Q0e]; exact hq); rw [D.Q0e] at this; exact this
  have i3' : (u : Int) = ((u / y1 : Nat) : Int) * (y1 : Int) + ((u % y1 : Nat) : Int) := by exact_mod_cast i3
  have j3' : (R1 : Int) = ((R1 / y1 : Nat) : Int) * (y1 : Int) + ((R1 % y1 : Nat) : Int) := by exact_mod_cast j3
  have R1e' : (u : Int) * 4294967296 + (n1 : Int) = (Q1 : Int) * (Y : Int) + (R1 : Int) := by omega
  have R0e' : (R1 : Int) * 4294967296 + (n0 : Int) = (Q0 : Int) * (Y : Int) + (R0 : Int) := by omega
  have e16 : ((u : Int) - ((u / y1 : Nat) : Int) * (y1 : Int) % 18446744073709551616) % 18446744073709551616 = ((u % y1 : Nat) : Int) := by omega
  have e17 : (((u : Int) * 4294967296 % 18446744073709551616 + (n1 : Int)) % 18446744073709551616 - (Q1 : Int) * (Y : Int) % 18446744073709551616) % 18446744073709551616 = (R1 : Int) := by omega
  have e19 : ((R1 : Int) - ((R1 / y1 : Nat) : Int) * (y1 : Int) % 18446744073709551616) % 18446744073709551616 = ((R1 % y1 : Nat) : Int) := by omega
  have e6 : ((Q1 : Int) * 4294967296 % 18446744073709551616 + (Q0 : Int)) % 18446744073709551616 = (((h * 18446744073709551616 + l) / y : Nat) : Int) := by rw [← quo]; omega
  have e7a : (((R1 : Int) * 4294967296 % 18446744073709551616 + (n0 : Int)) % 18446744073709551616 - (Q0 : Int) * (Y : Int) % 18446744073709551616) % 18446744073709551616 = (R0 : Int) := by omega
  have e7 : (R0 : Int) / 2 ^ s = (((h * 18446744073709551616 + l) % y : Nat) : Int) := by rw [← rem, castShr]
  clear D R1e R0e i3' j3' R1e' R0e' quo rem
  all_goals repeat' (first
 | ((with_reducible first | (refine ZA ?_; intro X hX) | (refine ZB ?_; intro X hX) | (show awp _ _ _ _ (Kp _ _) _) | refine ZD ?_ | refine ZE ?_ | refine ZF ?_ | ((show Bg _ _ _ _ _); simp only [hall]) | (refine ZR ?_ ?_ <;> intro hb <;> (try simp only [hb]) <;> have hq := hb <;> try simp only [HQ] at hq)) <;> try simp only [Go.AM.SS, Nat.reduceAdd, Nat.reduceMul, Nat.reduceSub, ↓reduceIte, Nat.reduceEqDiff, Nat.reduceLT, Nat.reduceLeDiff, reduceCtorEq, Int.reduceBEq, Int.reduceBNe, Nat.reduceBEq, Int.reduceEq, Int.reduceToNat, Int.reduceLE, Int.reduceLT, Nat.reduceDiv, Int.reduceAdd, Int.reduceSub, Int.reduceMul, Int.reduceNeg, Int.reduceGT, Int.reduceGE, Nat.reduceMod, k176_218, s218.eq_1, s218_eq, ty_3, ty_22, ty_75, g1, g2, c1, IntKind.bits, m1, m2, m3, minLit, Int.reducePow, e2, e9, e10, e11, e12, e13, e14, y1p, t1, t2, lt1, lt2, e16, e17, e19, e6, e7a, e7])
 | with_reducible first
 | (refine hX _ _ ?_; clear hX X)
 | (refine ZG ?_; try clear hall all)
 | (refine ZH ?_; try clear hall all)
 | (refine hK _ _ ?_; clear hK K)
 | refine ZL ?_
 | (refine v_0 _ _ ?_; try clear v_0 V_0)
 | (refine v_1 _ _ ?_; try clear v_1 V_1)
 | (refine v_2 _ _ ?_; try clear v_2 V_2)
    | with_reducible refine hJ0 _ _ ?_
    | (with_reducible refine awp_seq_e (a := .block 0 _) [(2, .v (.int .u64 Y)), (8, .v (.int .u64 s)), (9, .v (.int .u64 y1)), (10, .v (.int .u64 y0)), (11, .v (.int .u64 u)), (13, .v (.int .u64 n1)), (14, .v (.int .u64 n0)), (15, .v (.int .u64 Q1))] [] ?_ ?_; rotate_left; intro KJ hJ0)
    | with_reducible refine hJ2 _ _ ?_
    | (with_reducible refine awp_seq_e (a := .block 2 _) [(2, .v (.int .u64 Y)), (8, .v (.int .u64 s)), (14, .v (.int .u64 n0)), (15, .v (.int .u64 Q1)), (17, .v (.int .u64 R1)), (18, .v (.int .u64 Q0))] [] ?_ ?_; rotate_left; intro KJ hJ2)
    | (with_reducible refine awp_lp (c := .seq (.seq (.region 17 _ _) _) _) (σ := Nat × Nat) (fun s => u = s.1 * y1 + s.2 ∧ Q1 ≤ s.1 ∧ s.1 ≤ 4294967297 ∧ s.2 < 4294967296) (fun z => [(2, .v (.int .u64 Y)), (8, .v (.int .u64 s)), (9, .v (.int .u64 y1)), (10, .v (.int .u64 y0)), (11, .v (.int .u64 u)), (13, .v (.int .u64 n1)), (14, .v (.int .u64 n0)), (15, .v (.int .u64 z.1)), (16, .v (.int .u64 z.2))]) (fun _ => []) (fun z => z.1) (u / y1, u % y1) ?_ ?_ (fun z hz => ?_))
    | (with_reducible refine awp_lp (c := .seq (.seq (.region 24 _ _) _) _) (σ := Nat × Nat) (fun s => R1 = s.1 * y1 + s.2 ∧ Q0 ≤ s.1 ∧ s.1 ≤ 4294967297 ∧ s.2 < 4294967296) (fun z => [(2, .v (.int .u64 Y)), (8, .v (.int .u64 s)), (9, .v (.int .u64 y1)), (10, .v (.int .u64 y0)), (14, .v (.int .u64 n0)), (15, .v (.int .u64 Q1)), (17, .v (.int .u64 R1)), (18, .v (.int .u64 z.1)), (16, .v (.int .u64 z.2))]) (fun _ => []) (fun z => z.1) (R1 / y1, R1 % y1) ?_ ?_ (fun z hz => ?_))
 | ((first | refine qr 28 [6,7] ?_ | refine qb 2 [2,8,14,15,17,18] ?_ | refine qr 23 [2,8,9,10,14,15,16,17,18] ?_ | refine qr 22 [2,8,9,10,14,15,17,18] ?_ | refine qr 21 [2,8,9,10,14,15,17] ?_ | refine qb 0 [2,8,9,10,11,13,14,15] ?_ | refine qr 16 [2,8,9,10,11,13,14,15,16] ?_ | refine qr 15 [2,8,9,10,11,13,14,15] ?_ | refine qr 14 [2,8,9,10,11,13,14] ?_ | refine qr 13 [2,8,9,10,11,12,13] ?_ | refine qr 12 [2,8,9,10,11,12] ?_ | refine qr 11 [1,2,8,9,10,11] ?_ | refine qr 10 [0,1,2,8,9,10] ?_ | refine qr 9 [0,1,2,8,9] ?_ | refine qr 8 [0,1,2,8] ?_ | refine qr 7 [0,1,2,8] ?_ | refine Zh (a := .seq (.region 5 _ _) _) [0,1,2] ?_ | refine Zh (a := .seq (.region 3 _ _) _) [0,1,2] ?_ | refine Zh (a := .seq (.region 1 _ _) _) [0,1,2] ?_ | refine qr 0 [0,1,2] ?_); intro V_0 v_0)
 | ((first | refine qr 27 [2,8,9,10,14,15,16,17,18,120] ?_ | refine qr 26 [2,8,9,10,14,15,16,17,18] ?_ | refine qr 25 [2,8,9,10,14,15,16,17,18] ?_ | refine Zh (a := .seq (.region 24 _ _) _) [2,8,9,10,14,15,16,17,18] ?_ | refine qr 20 [2,8,9,10,11,13,14,15,16,85] ?_ | refine qr 19 [2,8,9,10,11,13,14,15,16] ?_ | refine qr 18 [2,8,9,10,11,13,14,15,16] ?_ | refine Zh (a := .seq (.region 17 _ _) _) [2,8,9,10,11,13,14,15,16] ?_ | refine qr 6 [6,7] ?_ | refine qr 5 [0,1,2,27] ?_ | refine qr 3 [0,1,2,24] ?_ | refine qr 1 [0,1,2,20] ?_); intro V_1 v_1)
 | ((first | refine qr 24 [2,8,9,10,14,15,16,17,18,113] ?_ | refine qr 17 [2,8,9,10,11,13,14,15,16,78] ?_); intro V_2 v_2)
 | (refine ZM ?_; intro K hK)
 | (refine ZN ?_; intro all hall K hK)
 | (refine ZO ?_ ?_; kernel_rfl; intro all hall K hK)
 | (refine ZQ ?_ ?_)
 | (refine ZK ?_; kernel_rfl)
 | (refine Zg ?_; simp only [↓reduceIte, Nat.reduceEqDiff])
 | refine ZS ?_ | refine ZT ?_ | refine ZU ?_ | refine ZV ?_ | refine ZW ?_ | refine ZX ?_ | refine ZY ?_ | refine ZZ ?_ | refine Za ?_ | refine Ze ?_ | refine Zf ?_)
  all_goals try clear v_2 V_2
  all_goals try clear v_1 V_1
  all_goals try clear v_0 V_0
  all_goals clear e17 e6 e7 e16 e19 e7a e2 e9 e10 e11 e12 e13 e14 y1p t1 t2 lt1 lt2 c1 m1 m2 m3 g1 g2
  all_goals (try simp only [inR])
  all_goals first
    | exact Ent.refl _ _
    | exact ⟨i3, i1, i2, by omega⟩
    | exact ⟨j3, j1, j2, by omega⟩
    | (rcases z with ⟨q, r⟩
       dsimp only at *
       have kp := kn_prod y0l hz.2.2.1
       obtain ⟨d1, d2, d3⟩ := kD1 (q := q) (r := r) (by first | (left; omega) | (right; omega)) hz.1 hz.2.1
       first
         | (have kq := kQ1 (q := q - 1) (r := r + y1) (.inr ⟨by omega, by omega⟩) d3 d1
            (refine Eo [] rfl ?_ ?_ <;> simp only [Me, Sl, AvLe, lk, ↓reduceIte, Nat.reduceEqDiff, Option.isSome_some, and_self, and_true, true_and, reduceCtorEq, List.map_nil, List.map_cons, Option.some.injEq, AV.v.injEq, Value.int.injEq, Value.bool.injEq, AV.rd.injEq, AV.ow.injEq, AV.al.injEq, AV.ref.injEq] <;> omega))
         | exact ⟨(q - 1, r + y1), (by (refine Eo [] rfl ?_ ?_ <;> simp only [Me, Sl, AvLe, lk, ↓reduceIte, Nat.reduceEqDiff, Option.isSome_some, and_self, and_true, true_and, reduceCtorEq, List.map_nil, List.map_cons, Option.some.injEq, AV.v.injEq, Value.int.injEq, Value.bool.injEq, AV.rd.injEq, AV.ow.injEq, AV.al.injEq, AV.ref.injEq] <;> omega)), ⟨d3, d1, by dsimp only; omega, by dsimp only; omega⟩, by dsimp only; omega⟩)
    | (rcases z with ⟨q, r⟩
       dsimp only at *
       have kp := kn_prod y0l hz.2.2.1
       have kq := kQ1 (q := q) (r := r) (.inl (by omega)) hz.1 hz.2.1
       (refine Eo [] rfl ?_ ?_ <;> simp only [Me, Sl, AvLe, lk, ↓reduceIte, Nat.reduceEqDiff, Option.isSome_some, and_self, and_true, true_and, reduceCtorEq, List.map_nil, List.map_cons, Option.some.injEq, AV.v.injEq, Value.int.injEq, Value.bool.injEq, AV.rd.injEq, AV.ow.injEq, AV.al.injEq, AV.ref.injEq] <;> omega))
    | (rcases z with ⟨q, r⟩
       dsimp only at *
       have kp := kn_prod y0l hz.2.2.1
       obtain ⟨d1, d2, d3⟩ := kD0 (q := q) (r := r) (by first | (left; omega) | (right; omega)) hz.1 hz.2.1
       first
         | (have kq := kQ0 (q := q - 1) (r := r + y1) (.inr ⟨by omega, by omega⟩) d3 d1
            (refine Eo [] rfl ?_ ?_ <;> simp only [Me, Sl, AvLe, lk, ↓reduceIte, Nat.reduceEqDiff, Option.isSome_some, and_self, and_true, true_and, reduceCtorEq, List.map_nil, List.map_cons, Option.some.injEq, AV.v.injEq, Value.int.injEq, Value.bool.injEq, AV.rd.injEq, AV.ow.injEq, AV.al.injEq, AV.ref.injEq] <;> omega))
         | exact ⟨(q - 1, r + y1), (by (refine Eo [] rfl ?_ ?_ <;> simp only [Me, Sl, AvLe, lk, ↓reduceIte, Nat.reduceEqDiff, Option.isSome_some, and_self, and_true, true_and, reduceCtorEq, List.map_nil, List.map_cons, Option.some.injEq, AV.v.injEq, Value.int.injEq, Value.bool.injEq, AV.rd.injEq, AV.ow.injEq, AV.al.injEq, AV.ref.injEq] <;> omega)), ⟨d3, d1, by dsimp only; omega, by dsimp only; omega⟩, by dsimp only; omega⟩)
    | (rcases z with ⟨q, r⟩
       dsimp only at *
       have kp := kn_prod y0l hz.2.2.1
       have kq := kQ0 (q := q) (r := r) (.inl (by omega)) hz.1 hz.2.1
       (refine Eo [] rfl ?_ ?_ <;> simp only [Me, Sl, AvLe, lk, ↓reduceIte, Nat.reduceEqDiff, Option.isSome_some, and_self, and_true, true_and, reduceCtorEq, List.map_nil, List.map_cons, Option.some.injEq, AV.v.injEq, Value.int.injEq, Value.bool.injEq, AV.rd.injEq, AV.ow.injEq, AV.al.injEq, AV.ref.injEq] <;> omega))
    | (have h1 := Nat.div_le_self l y
       generalize l / y = qq at *
       omega)
    | ((refine Eo [] rfl ?_ ?_ <;> simp only [Me, Sl, AvLe, lk, ↓reduceIte, Nat.reduceEqDiff, Option.isSome_some, and_self, and_true, true_and, reduceCtorEq, List.map_nil, List.map_cons, Option.some.injEq, AV.v.injEq, Value.int.injEq, Value.bool.injEq, AV.rd.injEq, AV.ow.injEq, AV.al.injEq, AV.ref.injEq] <;> omega); done)
    | (have h0 : h = 0 := by omega
       subst h0
       simp only [Nat.zero_mul, Nat.zero_add]
       done)
    | (have h0 : h = 0 := by omega
       subst h0
       simp only [Nat.zero_mul, Nat.zero_add]
       exact ⟨trivial, trivial⟩)
    | skip
theorem sound_176 : Sound Tryz.prog 176 .body (norm s176) := by
  refine sb Tryz.func176 rfl (by kernel_rfl) G176_ok (by kernel_rfl) fun ds p r hs hp => ?_
  unfold s176 at hs
  split at hs
  · cases hs; exact ⟨Nat.le_of_ble_eq_true (by kernel_rfl), wk176 _ _ _ hp⟩
  · cases hs
noncomputable def s142 : Cs := fun ds => match ds with
  | [.sl .u64 a, .v (.int .u64 n)] => some ((lim a ∧ a.length ≤ 100000000) ∧ 0 < n ∧ n < 18446744073709551616, .many [.fresh .u64 (limbs (val a / n.toNat)), .v (.int .u64 ((val a % n.toNat : Nat)))])
  | _ => none
theorem s142_eq (a : List Int) (n : Int) : norm s142 [.sl .u64 a, .v (.int .u64 n)] = s142 [.sl .u64 a, .v (.int .u64 n)] := rfl
theorem s142_nil1  (n : Int) : norm s142 [.v (.slice none 0 0), .v (.int .u64 n)] = s142 [.sl .u64 [], .v (.int .u64 n)] := rfl
noncomputable def G142 : Gam := [(176, .body, norm s176), (193, .body, norm s193)]
theorem G142_ok : Gk Tryz.prog G142 := Gc sound_176 (Gc sound_193 Gn)
theorem k142_176 : lk G142 176 = some (.body, norm s176) := rfl
theorem k142_193 : lk G142 193 = some (.body, norm s193) := rfl
theorem wk142 (a : List Int) (n : Int) (hp : (lim a ∧ a.length ≤ 100000000) ∧ 0 < n ∧ n < 18446744073709551616) : awp ty G142 (code Tryz.f142) (retP ty Tryz.f142.results.toList (.many [.fresh .u64 (limbs (val a / n.toNat)), .v (.int .u64 ((val a % n.toNat : Nat)))])) (entry 0 [.sl .u64 a, .v (.int .u64 n)]) [] := by
  unfold code
  simp only [Tryz.f142, Option.getD_some]
  obtain ⟨m, rfl⟩ := Int.eq_ofNat_of_zero_le (show 0 ≤ n by omega)
  all_goals repeat' (first
 | ((with_reducible first | (refine ZA ?_; intro X hX) | (show awp _ _ _ _ (Kp _ _) _) | refine ZD ?_ | refine ZE ?_ | refine ZF ?_ | ((show Bg _ _ _ _ _); simp only [hall]) | (refine ZR ?_ ?_ <;> intro hb <;> (try simp only [hb]) <;> have hq := hb <;> try simp only [HQ] at hq)) <;> try simp only [Go.AM.SS, Nat.reduceAdd, Nat.reduceMul, Nat.reduceSub, ↓reduceIte, Nat.reduceEqDiff, Nat.reduceLT, Nat.reduceLeDiff, reduceCtorEq, Int.reduceBEq, Int.reduceBNe, Nat.reduceBEq, Int.reduceEq, Int.reduceToNat, Int.reduceLE, Int.reduceLT, Nat.reduceDiv, Int.reduceAdd, Int.reduceSub, Int.reduceMul, Int.reduceNeg, Int.reduceGT, Int.reduceGE, Nat.reduceMod, k142_176, s176.eq_1, s176_eq, k142_193, s193.eq_1, s193_eq, s193_nil1, ty_3, ty_22, ty_50, List.length_replicate])
 | with_reducible first
 | (refine hX _ _ ?_; clear hX X)
 | (refine ZG ?_; try clear hall all)
 | (refine hK _ _ ?_; clear hK K)
 | refine ZL ?_
 | (refine v_0 _ _ ?_; try clear v_0 V_0)
 | (refine v_1 _ _ ?_; try clear v_1 V_1)
 | (refine v_2 _ _ ?_; try clear v_2 V_2)
    | (with_reducible refine awp_lp (σ := Nat × Nat × List Int) (fun s => s.1 ≤ a.length ∧ s.2.1 < m ∧ lim s.2.2 ∧ s.2.2.length = a.length ∧ val (s.2.2.drop s.1) = val (a.drop s.1) / m ∧ s.2.1 = val (a.drop s.1) % m) (fun s => [(0, .rd .u64 a), (1, .v (.int .u64 m)), (6, .ow 176), (7, .v (.int .u64 s.2.1)), (8, .v (.int .i64 ((s.1 : Int) - 1)))]) (fun s => [(176, .ints .u64 s.2.2, false)]) (fun s => s.1) (a.length, 0, List.replicate a.length 0) ?_ ?_ (fun s hs => ?_))
 | ((first | refine qr 7 [4,5] ?_ | refine Zh (a := .seq (.region 3 _ _) _) [6,7] ?_ | refine qr 2 [0,1,6,7] ?_ | refine qr 1 [0,1,6] ?_ | refine qr 0 [0,1] ?_); intro V_0 v_0)
 | ((first | refine qb 1 [0,1,6,7,8] ?_ | refine Zh (a := .seq (.region 4 _ _) _) [0,1,6,7,8] ?_ | refine qr 3 [0,1,6,7,8] ?_); intro V_1 v_1)
 | ((first | refine qr 4 [0,1,6,7,8,16] ?_); intro V_2 v_2)
 | (refine ZM ?_; intro K hK)
 | (refine ZN ?_; intro all hall K hK)
 | (refine ZQ ?_ ?_)
 | (refine Zg ?_; simp only [↓reduceIte, Nat.reduceEqDiff])
 | refine ZS ?_ | refine ZT ?_ | refine ZU ?_ | refine ZV ?_ | refine ZW ?_ | refine ZX ?_ | refine ZY ?_ | refine ZZ ?_ | refine Za ?_ | refine Ze ?_ | refine Zf ?_)
  all_goals try clear v_2 V_2
  all_goals try clear v_1 V_1
  all_goals try clear v_0 V_0
  all_goals (try (rcases s with ⟨i, c, o⟩))
  all_goals (try dsimp only at *)
  all_goals (try simp only [inR])
  all_goals (try omega)
  · refine ⟨Nat.le_refl _, by omega, lim_rep _, by simp, ?_, ?_⟩
    · rw [List.drop_of_length_le (by simp), List.drop_length]; simp [val]
    · rw [List.drop_length]; simp [val]
  · exact Ent.refl _ _
  · have h1 := Mg hp.1.1 (i := ((i : Int) - 1).toNat)
    have h2 := hs.2.1
    exact ⟨⟨by omega, by omega⟩, h1, by omega, by omega⟩
  · have e : ((i : Int) - 1).toNat = i - 1 := by omega
    rw [e]
    have h1 := Mg hp.1.1 (i := i - 1)
    have h2 := word_step (i := i - 1) hp.1.1 (by omega) hs.2.1 (by omega) hs.2.2.2.1 (by rw [show i - 1 + 1 = i by omega]; exact hs.2.2.2.2)
    have h3 := word_lt (n := m) (by omega) hs.2.1 (show (a.getD (i - 1) 0).toNat < 18446744073709551616 by omega)
    have h4 := Nat.mod_lt (c * 18446744073709551616 + (a.getD (i - 1) 0).toNat) (show 0 < m by omega)
    refine ⟨(i - 1, (c * 18446744073709551616 + (a.getD (i - 1) 0).toNat) % m, o.set (i - 1) (((c * 18446744073709551616 + (a.getD (i - 1) 0).toNat) / m : Nat) : Int)), by (refine Eo [(176, 176)] rfl ?_ ?_ <;> simp only [Me, Sl, AvLe, lk, ↓reduceIte, Nat.reduceEqDiff, Option.isSome_some, and_self, and_true, true_and, reduceCtorEq, List.map_nil, List.map_cons, Option.some.injEq, AV.v.injEq, Value.int.injEq, Value.bool.injEq, AV.rd.injEq, AV.ow.injEq, AV.al.injEq, AV.ref.injEq] <;> omega), ⟨by dsimp only; omega, h4, lim_set hs.2.2.1 (nat_lim h3) _, by simp [hs.2.2.2.1], h2.1, h2.2⟩, by dsimp only; omega⟩
  · have h6 := sz_le o
    omega
  · have h0 : i = 0 := by omega
    subst h0
    have h1 := hs.2.2.2.2
    rw [List.drop_zero, List.drop_zero] at h1
    rw [Ts hs.2.2.1, h1.1, ← h1.2]
    all_goals (first | rfl | exact ⟨rfl, rfl⟩ | exact ⟨⟨rfl, rfl⟩, rfl⟩)
theorem sound_142 : Sound Tryz.prog 142 .body (norm s142) := by
  refine sb Tryz.func142 rfl (by kernel_rfl) G142_ok (by kernel_rfl) fun ds p r hs hp => ?_
  unfold s142 at hs
  split at hs
  · cases hs; exact ⟨Nat.le_of_ble_eq_true (by kernel_rfl), wk142 _ _ hp⟩
  · cases hs
noncomputable def s168 : Cs := fun ds => match ds with
  | [.sl .u64 a, .v (.int .i64 n)] => some ((lim a ∧ a.length ≤ 90000000) ∧ 0 ≤ n ∧ n ≤ 63, .many [.fresh .u64 (limbs (val a / 2 ^ n.toNat)), .v (.bool (val a % 2 ^ n.toNat != 0))])
  | _ => none
theorem s168_eq (a : List Int) (n : Int) : norm s168 [.sl .u64 a, .v (.int .i64 n)] = s168 [.sl .u64 a, .v (.int .i64 n)] := rfl
theorem s168_nil1  (n : Int) : norm s168 [.v (.slice none 0 0), .v (.int .i64 n)] = s168 [.sl .u64 [], .v (.int .i64 n)] := rfl
noncomputable def G168 : Gam := [(131, .body, norm s131), (192, .body, norm sClone), (193, .body, norm s193)]
theorem G168_ok : Gk Tryz.prog G168 := Gc sound_131 (Gc clone_n (Gc sound_193 Gn))
theorem k168_131 : lk G168 131 = some (.body, norm s131) := rfl
theorem k168_192 : lk G168 192 = some (.body, norm sClone) := rfl
theorem k168_193 : lk G168 193 = some (.body, norm s193) := rfl
theorem wk168 (a : List Int) (n : Int) (hp : (lim a ∧ a.length ≤ 90000000) ∧ 0 ≤ n ∧ n ≤ 63) : awp ty G168 (code Tryz.f168) (retP ty Tryz.f168.results.toList (.many [.fresh .u64 (limbs (val a / 2 ^ n.toNat)), .v (.bool (val a % 2 ^ n.toNat != 0))])) (entry 0 [.sl .u64 a, .v (.int .i64 n)]) [] := by
  unfold code
  simp only [Tryz.f168, Option.getD_some]
  have za := sz_le a
  have ya := Lz hp.1.1
  obtain ⟨s, rfl⟩ := Int.eq_ofNat_of_zero_le (show 0 ≤ n by omega)
  have hd : (s : Int).tdiv 64 = 0 := by rw [Int.tdiv_eq_ediv_of_nonneg (by omega)]; omega
  have hm : (s : Int).tmod 64 = (s : Int) := by rw [Int.tmod_eq_emod_of_nonneg (by omega)]; omega
  have dec0 : decide ((0 : Int) > 0) = false := rfl
  have m1 : min s 64 = s := by omega
  have m2 : (64 - (s : Int)).toNat = 64 - s := by omega
  have m3 : min (64 - s) 64 = 64 - s := by omega
  have p1 : (2 : Int) ^ s < 2 ^ 64 := by exact_mod_cast Nat.pow_lt_pow_right (by omega) (show s < 64 by omega)
  have p2 : (1 : Int) ≤ 2 ^ s := by exact_mod_cast Nat.one_le_two_pow
  have p3 : (2 : Int) ^ 64 = 18446744073709551616 := by decide
  have mk : 1 * (2 : Int) ^ s % 18446744073709551616 = 2 ^ s := by omega
  have mk2 : ((2 : Int) ^ s - 1) % 18446744073709551616 = 2 ^ s - 1 := by omega
  have gone : (AM.bits .and .u64 ((limbs (val a)).getD 0 0) (2 ^ s - 1) == 0) = (val a % 2 ^ s == 0) := by
    rw [and_mask s (Mg (Ml _)) (by omega), ← Vl (val a), mod_word (Ml _) (by omega), Vl]
    have h1 := Mg (Ml (val a)) (i := 0)
    generalize (limbs (val a)).getD 0 0 = x at *
    obtain ⟨y, rfl⟩ := Int.eq_ofNat_of_zero_le h1.1
    rw [Int.toNat_natCast, Bool.eq_iff_iff, beq_iff_eq, beq_iff_eq]
    have : (y : Int) % 2 ^ s = ((y % 2 ^ s : Nat) : Int) := by rw [Int.natCast_emod, Int.natCast_pow]; rfl
    rw [this]
    omega
  clear p1 p2 p3
  rcases Nat.eq_zero_or_pos s with hs0 | hs0
  all_goals first
    | (have g1 : decide ((s : Int) < 1) = false := by simp only [decide_eq_false_iff_not]; omega)
    | (have g1 : decide ((s : Int) < 1) = true := by simp only [decide_eq_true_eq]; omega)
  all_goals first
    | (have g5 : decide ((s : Int) > 0) = true := by simp only [decide_eq_true_eq]; omega)
    | (have g5 : decide ((s : Int) > 0) = false := by simp only [decide_eq_false_iff_not]; omega)
  all_goals repeat' (first
 | ((with_reducible first | (refine ZA ?_; intro X hX) | (refine ZB ?_; intro X hX) | (show awp _ _ _ _ (Kp _ _) _) | (refine hX _ _ _ _ ?_; clear hX X) | (refine ZC ?_; intro X hX) | refine ZD ?_ | refine ZE ?_ | refine ZF ?_ | ((show Bg _ _ _ _ _); simp only [hall]) | (refine ZR ?_ ?_ <;> intro hb <;> (try simp only [hb]) <;> have hq := hb <;> try simp only [HQ] at hq)) <;> try simp only [Go.AM.SS, Nat.reduceAdd, Nat.reduceMul, Nat.reduceSub, ↓reduceIte, Nat.reduceEqDiff, Nat.reduceLT, Nat.reduceLeDiff, reduceCtorEq, Int.reduceBEq, Int.reduceBNe, Nat.reduceBEq, Int.reduceEq, Int.reduceToNat, Int.reduceLE, Int.reduceLT, Nat.reduceDiv, Int.reduceAdd, Int.reduceSub, Int.reduceMul, Int.reduceNeg, Int.reduceGT, Int.reduceGE, Nat.reduceMod, k168_131, s131.eq_1, s131_eq, s131_nil1, k168_192, sClone_eq, sClone_nil, k168_193, s193.eq_1, s193_eq, s193_nil1, ty_3, ty_22, ty_50, Ts hp.1.1, hd, hm, g1, m1, m2, m3, IntKind.bits, mk, mk2, sz, gone, List.take_length, dec0, g5])
 | with_reducible first
 | (refine hX _ _ ?_; clear hX X)
 | (refine ZI ?_; try clear hall all)
 | (refine ZJ ?_; kernel_rfl)
 | ((show clashK _ _ _ = true); kernel_rfl)
 | (refine ZG ?_; try clear hall all)
 | (refine ZH ?_; try clear hall all)
 | (refine hK _ _ ?_; clear hK K)
 | refine ZL ?_
 | (refine v_0 _ _ ?_; try clear v_0 V_0)
 | (refine v_1 _ _ ?_; try clear v_1 V_1)
 | (refine v_2 _ _ ?_; try clear v_2 V_2)
    | with_reducible refine hJ8 _ _ ?_
    | (with_reducible refine awp_seq_e (a := .region 8 _ _) [(0, .rd .u64 (limbs (val a))), (6, .v (.int .i64 0)), (7, .v (.int .i64 s)), (8, .v (.bool (!(val a % 2 ^ s == 0))))] [] ?_ ?_; rotate_left; intro KJ hJ8)
    | (with_reducible refine awp_lp (σ := Nat × List Int) (fun s1 => s1.1 ≤ (limbs (val a)).length ∧ s1.2.length = (limbs (val a)).length ∧ lim s1.2 ∧ s1.2.drop s1.1 = (limbs (val a)).drop s1.1 ∧ val (s1.2.take s1.1) + 2 ^ (64 * s1.1) * (val ((limbs (val a)).drop s1.1) / 2 ^ s) = val (limbs (val a)) / 2 ^ s) (fun s1 => [(0, .rd .u64 (limbs (val a))), (6, .v (.int .i64 0)), (7, .v (.int .i64 s)), (8, .v (.bool (!(val a % 2 ^ s == 0)))), (9, .ow 784), (53, .v (.int .i64 (limbs (val a)).length)), (54, .v (.int .i64 s1.1))]) (fun s1 => [(784, .ints .u64 s1.2, false)]) (fun s1 => (limbs (val a)).length - s1.1) (0, limbs (val a)) ?_ ?_ (fun s1 hs1 => ?_))
 | ((first | refine qr 18 [4,5] ?_ | refine Zh (a := .seq (.region 10 _ _) _) [8,9] ?_ | refine qr 9 [0,6,7,8,9] ?_ | refine qr 8 [0,6,7,8] ?_ | refine qr 7 [0,6,7] ?_ | refine Zh (a := .seq (.region 5 _ _) _) [0,1,6] ?_ | refine qr 4 [0,1,6] ?_ | refine Zh (a := .seq (.region 2 _ _) _) [0,1] ?_ | refine qr 1 [0,1] ?_ | refine qr 0 [0,1] ?_); intro V_0 v_0)
 | ((first | refine qb 1 [0,6,7,8,9,53,54] ?_ | refine Zh (a := .cond (.tmp 55) _ _) [0,6,7,8,9,53,54] ?_ | refine qr 12 [0,6,7,8,9,53,54,55] ?_ | refine qr 11 [0,6,7,8,9,53,54] ?_ | refine qr 10 [0,6,7,8,9,51] ?_ | refine qr 6 [4,5] ?_ | refine qr 5 [0,1,6,24] ?_ | refine qr 3 [4,5] ?_ | refine qr 2 [0,1,16] ?_); intro V_1 v_1)
 | ((first | refine qr 15 [0,6,7,8,9,10,53,54,68] ?_ | refine qr 14 [0,6,7,8,9,10,53,54] ?_ | refine qr 13 [0,6,7,8,9,10,53,54] ?_); intro V_2 v_2)
 | (refine ZM ?_; intro K hK)
 | (refine ZN ?_; intro all hall K hK)
 | (refine Da (id := 16) ?_ ?_; kernel_rfl; intro all hall K hK)
 | (refine ZO ?_ ?_; kernel_rfl; intro all hall K hK)
 | (refine ZQ ?_ ?_)
 | (refine ZK ?_; kernel_rfl)
 | (refine Zg ?_; simp only [↓reduceIte, Nat.reduceEqDiff])
 | refine ZS ?_ | refine ZT ?_ | refine ZU ?_ | refine ZV ?_ | refine ZW ?_ | refine ZX ?_ | refine ZY ?_ | refine ZZ ?_ | refine Za ?_ | refine Ze ?_ | refine Zf ?_)
  all_goals try clear v_2 V_2
  all_goals try clear v_1 V_1
  all_goals try clear v_0 V_0
  all_goals (try (rcases s1 with ⟨i, o⟩))
  all_goals (try dsimp only at *)
  all_goals (try simp only [inR])
  all_goals (try omega)
  · exact ⟨Ml _, by omega⟩
  · rw [hs0]; simp [Nat.mod_one, Vl]
  · have h0 : val a = 0 := len_zero.1 (by omega)
    rw [h0]; simp [limbs_zero]
  · (refine Eo [] rfl ?_ ?_ <;> simp only [Me, Sl, AvLe, lk, ↓reduceIte, Nat.reduceEqDiff, Option.isSome_some, and_self, and_true, true_and, reduceCtorEq, List.map_nil, List.map_cons, Option.some.injEq, AV.v.injEq, Value.int.injEq, Value.bool.injEq, AV.rd.injEq, AV.ow.injEq, AV.al.injEq, AV.ref.injEq]) <;> simp [hq]
  · (refine Eo [] rfl ?_ ?_ <;> simp only [Me, Sl, AvLe, lk, ↓reduceIte, Nat.reduceEqDiff, Option.isSome_some, and_self, and_true, true_and, reduceCtorEq, List.map_nil, List.map_cons, Option.some.injEq, AV.v.injEq, Value.int.injEq, Value.bool.injEq, AV.rd.injEq, AV.ow.injEq, AV.al.injEq, AV.ref.injEq]) <;> simp [hq]

  · refine ⟨Nat.zero_le _, trivial, Ml _, trivial, ?_⟩
    simp [val]
  · exact Ent.refl _ _
  · have e : (0 + (i : Int) + 1).toNat = i + 1 := by omega
    have h1 := shr_next (s := s) (Ml (val a)) (by omega) hs1.2.1 (by omega) hs1.2.2.1 hs1.2.2.2.1 hs1.2.2.2.2
    have h2 := shr_step (s := s) (o := o) (Ml (val a)) (show i < (limbs (val a)).length by omega) hs1.2.1 (by omega) hs1.2.2.2.2
    rw [e, h1.1]
    exact ⟨(i + 1, _), (by (refine Eo [(784, 784)] rfl ?_ ?_ <;> simp only [Me, Sl, AvLe, lk, ↓reduceIte, Nat.reduceEqDiff, Option.isSome_some, and_self, and_true, true_and, reduceCtorEq, List.map_nil, List.map_cons, Option.some.injEq, AV.v.injEq, Value.int.injEq, Value.bool.injEq, AV.rd.injEq, AV.ow.injEq, AV.al.injEq, AV.ref.injEq] <;> omega)), ⟨by dsimp only; omega, by simp [hs1.2.1], lim_set hs1.2.2.1 h1.2.2.1 i, h1.2.2.2, h2⟩, by dsimp only; omega⟩
  · have h1 := shr_next (s := s) (Ml (val a)) (by omega) hs1.2.1 (by omega) hs1.2.2.1 hs1.2.2.2.1 hs1.2.2.2.2
    have h2 := shr_step (s := s) (o := o) (Ml (val a)) (show i < (limbs (val a)).length by omega) hs1.2.1 (by omega) hs1.2.2.2.2
    rw [h1.2.1 (by omega)]
    exact ⟨(i + 1, _), (by (refine Eo [(784, 784)] rfl ?_ ?_ <;> simp only [Me, Sl, AvLe, lk, ↓reduceIte, Nat.reduceEqDiff, Option.isSome_some, and_self, and_true, true_and, reduceCtorEq, List.map_nil, List.map_cons, Option.some.injEq, AV.v.injEq, Value.int.injEq, Value.bool.injEq, AV.rd.injEq, AV.ow.injEq, AV.al.injEq, AV.ref.injEq] <;> omega)), ⟨by dsimp only; omega, by simp [hs1.2.1], lim_set hs1.2.2.1 h1.2.2.1 i, h1.2.2.2, h2⟩, by dsimp only; omega⟩
  · have h6 := sz_le o
    omega
  · have hi : i = (limbs (val a)).length := by omega
    subst hi
    have h5 := hs1.2.2.2.2
    rw [List.drop_length, List.take_of_length_le (by omega), Vl] at h5
    simp only [val, Nat.zero_div, Nat.mul_zero, Nat.add_zero] at h5
    rw [Ts hs1.2.2.1, h5]
    all_goals (first | rfl | exact ⟨rfl, rfl⟩)
theorem sound_168 : Sound Tryz.prog 168 .body (norm s168) := by
  refine sb Tryz.func168 rfl (by kernel_rfl) G168_ok (by kernel_rfl) fun ds p r hs hp => ?_
  unfold s168 at hs
  split at hs
  · cases hs; exact ⟨Nat.le_of_ble_eq_true (by kernel_rfl), wk168 _ _ hp⟩
  · cases hs
noncomputable def s231 : Cs := fun ds => match ds with
  | [.sl .u64 a, .v (.int .i64 n)] => some ((lim a ∧ a.length ≤ 90000000) ∧ 0 ≤ n ∧ n ≤ 63, .many [.fresh .u64 (limbs (val a * 2 ^ n.toNat)), .v (.bool true)])
  | _ => none
theorem s231_eq (a : List Int) (n : Int) : norm s231 [.sl .u64 a, .v (.int .i64 n)] = s231 [.sl .u64 a, .v (.int .i64 n)] := rfl
theorem s231_nil1  (n : Int) : norm s231 [.v (.slice none 0 0), .v (.int .i64 n)] = s231 [.sl .u64 [], .v (.int .i64 n)] := rfl
noncomputable def G231 : Gam := [(193, .body, norm s193)]
theorem G231_ok : Gk Tryz.prog G231 := Gc sound_193 Gn
theorem k231_193 : lk G231 193 = some (.body, norm s193) := rfl
theorem wk231 (a : List Int) (n : Int) (hp : (lim a ∧ a.length ≤ 90000000) ∧ 0 ≤ n ∧ n ≤ 63) : awp ty G231 (code Tryz.f231) (retP ty Tryz.f231.results.toList (.many [.fresh .u64 (limbs (val a * 2 ^ n.toNat)), .v (.bool true)])) (entry 0 [.sl .u64 a, .v (.int .i64 n)]) [] := by
  unfold code
  simp only [Tryz.f231, Option.getD_some]
  obtain ⟨t, rfl⟩ := Int.eq_ofNat_of_zero_le hp.2.1
  have m1 : min t 64 = t := by omega
  have m2 : (64 - (t : Int)).toNat = 64 - t := by omega
  have m3 : min (64 - t) 64 = 64 - t := by omega
  rcases Nat.eq_zero_or_pos t with ht0 | ht0
  all_goals first
    | (have g5 : decide ((t : Int) > 0) = true := by simp only [decide_eq_true_eq]; omega)
    | (have g5 : decide ((t : Int) > 0) = false := by simp only [decide_eq_false_iff_not]; omega)
  all_goals repeat' (first
 | ((with_reducible first | (refine ZA ?_; intro X hX) | (refine ZB ?_; intro X hX) | (show awp _ _ _ _ (Kp _ _) _) | (refine hX _ _ _ _ ?_; clear hX X) | (refine ZC ?_; intro X hX) | refine ZD ?_ | refine ZE ?_ | refine ZF ?_ | ((show Bg _ _ _ _ _); simp only [hall]) | (refine ZR ?_ ?_ <;> intro hb <;> (try simp only [hb]) <;> have hq := hb <;> try simp only [HQ] at hq)) <;> try simp only [Go.AM.SS, Nat.reduceAdd, Nat.reduceMul, Nat.reduceSub, ↓reduceIte, Nat.reduceEqDiff, Nat.reduceLT, Nat.reduceLeDiff, reduceCtorEq, Int.reduceBEq, Int.reduceBNe, Nat.reduceBEq, Int.reduceEq, Int.reduceToNat, Int.reduceLE, Int.reduceLT, Nat.reduceDiv, Int.reduceAdd, Int.reduceSub, Int.reduceMul, Int.reduceNeg, Int.reduceGT, Int.reduceGE, Nat.reduceMod, k231_193, s193.eq_1, s193_eq, s193_nil1, ty_3, ty_22, ty_50, List.length_replicate, IntKind.bits, m1, m2, m3, g5])
 | with_reducible first
 | (refine hX _ _ ?_; clear hX X)
 | (refine ZI ?_; try clear hall all)
 | (refine ZJ ?_; kernel_rfl)
 | ((show clashK _ _ _ = true); kernel_rfl)
 | (refine ZG ?_; try clear hall all)
 | (refine ZH ?_; try clear hall all)
 | (refine hK _ _ ?_; clear hK K)
 | refine ZL ?_
 | (refine v_0 _ _ ?_; try clear v_0 V_0)
 | (refine v_1 _ _ ?_; try clear v_1 V_1)
 | (refine v_2 _ _ ?_; try clear v_2 V_2)
    | (with_reducible refine awp_lp (σ := Nat × List Int) (fun s => s.1 ≤ a.length ∧ lim s.2 ∧ s.2.length = a.length + 1 ∧ val s.2 = val (a.take s.1) * 2 ^ t) (fun s => [(1, .v (.int .i64 t)), (6, .ow 192), (13, .rd .u64 a), (14, .v (.int .i64 a.length)), (15, .v (.int .i64 s.1))]) (fun s => [(192, .ints .u64 s.2, false)]) (fun s => a.length - s.1) (0, List.replicate (a.length + 1) 0) ?_ ?_ (fun s hs => ?_))
 | ((first | refine qr 9 [4,5] ?_ | refine Zh (a := .seq (.region 2 _ _) _) [6] ?_ | refine qr 1 [0,1,6] ?_ | refine qr 0 [0,1] ?_); intro V_0 v_0)
 | ((first | refine qb 1 [1,6,13,14,15] ?_ | refine Zh (a := .cond (.tmp 16) _ _) [1,6,13,14,15] ?_ | refine qr 3 [1,6,13,14,15,16] ?_ | refine qr 2 [1,6,13,14,15] ?_); intro V_1 v_1)
 | ((first | refine qr 6 [1,6,7,8,13,14,15,30] ?_ | refine qr 5 [1,6,7,8,13,14,15] ?_ | refine qr 4 [1,6,7,8,13,14,15] ?_); intro V_2 v_2)
 | (refine ZM ?_; intro K hK)
 | (refine ZN ?_; intro all hall K hK)
 | (refine Da (id := 5) ?_ ?_; kernel_rfl; intro all hall K hK)
 | (refine ZO ?_ ?_; kernel_rfl; intro all hall K hK)
 | (refine ZQ ?_ ?_)
 | (refine ZK ?_; kernel_rfl)
 | (refine Zg ?_; simp only [↓reduceIte, Nat.reduceEqDiff])
 | refine ZS ?_ | refine ZT ?_ | refine ZU ?_ | refine ZV ?_ | refine ZW ?_ | refine ZX ?_ | refine ZY ?_ | refine ZZ ?_ | refine Za ?_ | refine Ze ?_ | refine Zf ?_)
  all_goals try clear v_2 V_2
  all_goals try clear v_1 V_1
  all_goals try clear v_0 V_0
  all_goals clear m1 m2 m3 g5
  all_goals (try simp only [inR])
  all_goals (try (rcases s with ⟨i, o⟩))
  all_goals (try dsimp only at *)
  all_goals first
    | omega
    | exact ⟨Nat.zero_le _, lim_rep _, by simp, by simp [val_rep, val]⟩
    | (rw [show ((a.length : Int) + 1).toNat = a.length + 1 by omega]; exact Ent.refl _ _)
    | (have h1 := shift_lt hp.1.1 hs.2.2.2
       have h2 := low_word (V := 0) hs.2.1 h1 (show t ≤ 64 by omega)
       have h3 := Mg hs.2.1 (i := i)
       have h4 := Mg hp.1.1 (i := i)
       have h5 : o.getD (i + 1) 0 = 0 := getD_zero_of_lt hs.2.1 (Nat.lt_of_lt_of_le h1 (by rw [← Nat.pow_add]; exact Nat.pow_le_pow_right (by omega) (by omega)))
       rw [or_low ⟨h3.1, h2⟩ h4 (by omega)]
       rw [castShr2 h4.1]
       have h6 : (o.getD i 0).toNat + (a.getD i 0).toNat * 2 ^ t % 18446744073709551616 < 18446744073709551616 := low_sum (by omega) h2
       have h7 : (a.getD i 0).toNat / 2 ^ (64 - t) < 18446744073709551616 := Nat.lt_of_le_of_lt (Nat.div_le_self _ _) (by omega)
       have e : ((i : Int) + 1).toNat = i + 1 := by omega
       rw [e]
       exact ⟨(i + 1, (o.set i (((o.getD i 0).toNat + (a.getD i 0).toNat * 2 ^ t % 18446744073709551616 : Nat) : Int)).set (i + 1) (((a.getD i 0).toNat / 2 ^ (64 - t) : Nat) : Int)), (by (refine Eo [(192, 192)] rfl ?_ ?_ <;> simp only [Me, Sl, AvLe, lk, ↓reduceIte, Nat.reduceEqDiff, Option.isSome_some, and_self, and_true, true_and, reduceCtorEq, List.map_nil, List.map_cons, Option.some.injEq, AV.v.injEq, Value.int.injEq, Value.bool.injEq, AV.rd.injEq, AV.ow.injEq, AV.al.injEq, AV.ref.injEq] <;> omega)), ⟨by dsimp only; omega, lim_set (lim_set hs.2.1 (nat_lim h6) _) (nat_lim h7) _, by simp [hs.2.2.1], shift_step hp.1.1 (by omega) (by omega) hs.2.2.2 rfl h5⟩, by dsimp only; omega⟩)
    | (have h1 := shift_lt hp.1.1 hs.2.2.2
       have h2 := low_word (V := 0) hs.2.1 h1 (show t ≤ 64 by omega)
       have h3 := Mg hs.2.1 (i := i)
       have h4 := Mg hp.1.1 (i := i)
       have h5 : o.getD i 0 = 0 := by
         rw [ht0, Nat.pow_zero] at h2
         omega
       rw [or_low ⟨h3.1, h2⟩ h4 (by omega), h5]
       have h6 : (0 : Int).toNat + (a.getD i 0).toNat * 2 ^ t % 18446744073709551616 < 18446744073709551616 := low_sum (by omega) (by rw [ht0]; decide)
       refine ⟨(i + 1, o.set i (((0 : Int).toNat + (a.getD i 0).toNat * 2 ^ t % 18446744073709551616 : Nat) : Int)), (by (refine Eo [(192, 192)] rfl ?_ ?_ <;> simp only [Me, Sl, AvLe, lk, ↓reduceIte, Nat.reduceEqDiff, Option.isSome_some, and_self, and_true, true_and, reduceCtorEq, List.map_nil, List.map_cons, Option.some.injEq, AV.v.injEq, Value.int.injEq, Value.bool.injEq, AV.rd.injEq, AV.ow.injEq, AV.al.injEq, AV.ref.injEq] <;> omega)), ⟨by dsimp only; omega, lim_set hs.2.1 (nat_lim h6) _, by simp [hs.2.2.1], ?_⟩, by dsimp only; omega⟩
       simp only [Int.toNat_zero, Nat.zero_add]
       exact shift_step0 hp.1.1 ht0 (by omega) hs.2.2.2 h5)
    | (have h6 := sz_le o
       omega)
    | (have hi : i = a.length := by omega
       rw [Ts hs.2.1, hs.2.2.2, hi, List.take_length])
    | skip
theorem sound_231 : Sound Tryz.prog 231 .body (norm s231) := by
  refine sb Tryz.func231 rfl (by kernel_rfl) G231_ok (by kernel_rfl) fun ds p r hs hp => ?_
  unfold s231 at hs
  split at hs
  · cases hs; exact ⟨Nat.le_of_ble_eq_true (by kernel_rfl), wk231 _ _ hp⟩
  · cases hs
noncomputable def s232 : Cs := fun ds => match ds with
  | [.sl .u64 a, .sl .u64 b] => some ((lim a ∧ a.length ≤ 80000000) ∧ (lim b ∧ b.length ≤ 80000000) ∧ 2 ≤ b.length ∧ NB b, .many [.fresh .u64 (limbs (val a / val b)), .fresh .u64 (limbs (val a % val b))])
  | _ => none
theorem s232_eq (a : List Int) (b : List Int) : norm s232 [.sl .u64 a, .sl .u64 b] = s232 [.sl .u64 a, .sl .u64 b] := rfl
theorem s232_nil1  (b : List Int) : norm s232 [.v (.slice none 0 0), .sl .u64 b] = s232 [.sl .u64 [], .sl .u64 b] := rfl
theorem s232_nil2 (a : List Int)  : norm s232 [.sl .u64 a, .v (.slice none 0 0)] = s232 [.sl .u64 a, .sl .u64 []] := rfl
theorem s232_nil3   : norm s232 [.v (.slice none 0 0), .v (.slice none 0 0)] = s232 [.sl .u64 [], .sl .u64 []] := rfl
noncomputable def G232 : Gam := [(106, .body, norm s106), (107, .ext, sAdd64), (153, .ext, sSub64), (176, .body, norm s176), (192, .body, norm sClone), (193, .body, norm s193)]
theorem G232_ok : Gk Tryz.prog G232 := Gc sound_106 (Gc ext_107 (Gc ext_153 (Gc sound_176 (Gc clone_n (Gc sound_193 Gn)))))
theorem k232_106 : lk G232 106 = some (.body, norm s106) := rfl
theorem k232_107 : lk G232 107 = some (.ext, sAdd64) := rfl
theorem k232_153 : lk G232 153 = some (.ext, sSub64) := rfl
theorem k232_176 : lk G232 176 = some (.body, norm s176) := rfl
theorem k232_192 : lk G232 192 = some (.body, norm sClone) := rfl
theorem k232_193 : lk G232 193 = some (.body, norm s193) := rfl
theorem wk232 (a : List Int) (b : List Int) (hp : (lim a ∧ a.length ≤ 80000000) ∧ (lim b ∧ b.length ≤ 80000000) ∧ 2 ≤ b.length ∧ NB b) : awp ty G232 (code Tryz.f232) (retP ty Tryz.f232.results.toList (.many [.fresh .u64 (limbs (val a / val b)), .fresh .u64 (limbs (val a % val b))])) (entry 0 [.sl .u64 a, .sl .u64 b]) [] := by
  unfold code
  simp only [Tryz.f232, Option.getD_some]
  have mE : max (((a.length + 1 : Nat) : Int) - (b.length : Int)) 0 = ((a.length + 1 - b.length : Nat) : Int) := by omega
  have mT : (((a.length + 1 - b.length : Nat) : Int)).toNat = a.length + 1 - b.length := by omega
  all_goals repeat' (first
 | ((with_reducible first | (refine ZA ?_; intro X hX) | (refine ZB ?_; intro X hX) | (show awp _ _ _ _ (Kp _ _) _) | refine ZD ?_ | refine ZE ?_ | refine ZF ?_ | ((show Bg _ _ _ _ _); simp only [hall]) | (refine ZR ?_ ?_ <;> intro hb <;> (try simp only [hb]) <;> have hq := hb <;> try simp only [HQ] at hq)) <;> try simp only [Go.AM.SS, Nat.reduceAdd, Nat.reduceMul, Nat.reduceSub, ↓reduceIte, Nat.reduceEqDiff, Nat.reduceLT, Nat.reduceLeDiff, reduceCtorEq, Int.reduceBEq, Int.reduceBNe, Nat.reduceBEq, Int.reduceEq, Int.reduceToNat, Int.reduceLE, Int.reduceLT, Nat.reduceDiv, Int.reduceAdd, Int.reduceSub, Int.reduceMul, Int.reduceNeg, Int.reduceGT, Int.reduceGE, Nat.reduceMod, k232_106, s106.eq_1, s106_eq, k232_107, sAdd64_eq, k232_153, sSub64_eq, k232_176, s176.eq_1, s176_eq, k232_192, sClone_eq, sClone_nil, k232_193, s193.eq_1, s193_eq, s193_nil1, ty_3, ty_22, ty_50, aOne_append, bindP_some, spAppend, intSl, yInts, killE, namesT, names, List.map_cons, List.map_nil, toInts, List.length_append, List.length_replicate, mE, mT])
 | with_reducible first
 | (refine hX _ _ ?_; clear hX X)
 | (refine ZG ?_; try clear hall all)
 | (refine ZH ?_; try clear hall all)
 | (refine hK _ _ ?_; clear hK K)
 | refine ZL ?_
 | (refine v_0 _ _ ?_; try clear v_0 V_0)
 | (refine v_1 _ _ ?_; try clear v_1 V_1)
 | (refine v_2 _ _ ?_; try clear v_2 V_2)
 | (refine v_3 _ _ ?_; try clear v_3 V_3)
 | (refine v_4 _ _ ?_; try clear v_4 V_4)
 | (refine v_5 _ _ ?_; try clear v_5 V_5)
    | (with_reducible refine awp_seq_j (a := .seq (.region 8 _ _) _) (ι := {g : Nat // g < 18446744073709551616 ∧ QL s.2.1 b s.1 g}) (fun g => [(1, .rd .u64 b), (6, .v (.int .i64 b.length)), (7, .ow 448), (8, .ow 576), (9, .v (.int .i64 ((s.1 : Int) - 1))), (10, .v (.int .u64 g.1))]) (fun _ => [(448, .ints .u64 s.2.1, false), (576, .ints .u64 s.2.2, false)]) (fun ⟨g, hg⟩ => ?_) ?_; rotate_left; intro Kj hj8)
    | (with_reducible refine awp_seq_j (a := .region 27 _ _) (ι := {t : Nat × List Int // (t.1 ≤ 1 ∧ t.2.length = a.length + 1) ∧ LY s.2.1 b s.1 g t.1 t.2}) (fun t => [(1, .rd .u64 b), (6, .v (.int .i64 b.length)), (7, .ow 448), (8, .ow 576), (9, .v (.int .i64 ((s.1 : Int) - 1))), (10, .v (.int .u64 g)), (16, .v (.int .u64 t.1.1))]) (fun t => [(448, .ints .u64 t.1.2, false), (576, .ints .u64 s.2.2, false)]) (fun ⟨t, ht⟩ => ?_) ?_; rotate_left; intro Kj hj27)
    | (with_reducible refine awp_lp (c := .seq (.seq (.region 5 _ _) _) _) (σ := Nat × List Int × List Int) (fun s => (s.1 ≤ a.length + 1 - b.length ∧ s.2.1.length = a.length + 1 ∧ s.2.2.length = a.length + 1 - b.length) ∧ LO a b s.2.1 s.2.2 s.1) (fun s => [(1, .rd .u64 b), (6, .v (.int .i64 b.length)), (7, .ow 448), (8, .ow 576), (9, .v (.int .i64 ((s.1 : Int) - 1)))]) (fun s => [(448, .ints .u64 s.2.1, false), (576, .ints .u64 s.2.2, false)]) (fun s => s.1) (a.length + 1 - b.length, a ++ [0], List.replicate (a.length + 1 - b.length) 0) ?_ ?_ (fun s hs => ?_))
    | (with_reducible refine awp_lp (c := .block 3 _) (σ := Nat × Nat) (fun z => (z.1 < 18446744073709551616 ∧ z.2 < 18446744073709551616) ∧ LG s.2.1 b s.1 z.1 z.2) (fun z => [(1, .rd .u64 b), (6, .v (.int .i64 b.length)), (7, .ow 448), (8, .ow 576), (9, .v (.int .i64 ((s.1 : Int) - 1))), (10, .v (.int .u64 z.1)), (11, .v (.int .u64 z.2))]) (fun z => [(448, .ints .u64 s.2.1, false), (576, .ints .u64 s.2.2, false)]) (fun z => z.1) (((s.2.1.getD (s.1 - 1 + b.length) 0).toNat * 18446744073709551616 + (s.2.1.getD (s.1 - 1 + b.length - 1) 0).toNat) / (b.getD (b.length - 1) 0).toNat, ((s.2.1.getD (s.1 - 1 + b.length) 0).toNat * 18446744073709551616 + (s.2.1.getD (s.1 - 1 + b.length - 1) 0).toNat) % (b.getD (b.length - 1) 0).toNat) ?_ ?_ (fun z hz => ?_))
    | (with_reducible refine awp_lp (c := .seq (.region 19 _ _) _) (σ := Nat × Nat × Nat × List Int) (fun e => (e.1 ≤ b.length ∧ e.2.1 < 18446744073709551616 ∧ e.2.2.1 ≤ 1 ∧ e.2.2.2.length = a.length + 1) ∧ LM s.2.1 b s.1 g e.1 e.2.1 e.2.2.1 e.2.2.2) (fun e => [(1, .rd .u64 b), (6, .v (.int .i64 b.length)), (7, .ow 448), (8, .ow 576), (9, .v (.int .i64 ((s.1 : Int) - 1))), (10, .v (.int .u64 g)), (15, .v (.int .u64 e.2.1)), (16, .v (.int .u64 e.2.2.1)), (121, .rd .u64 b), (122, .v (.int .i64 b.length)), (123, .v (.int .i64 e.1))]) (fun e => [(448, .ints .u64 e.2.2.2, false), (576, .ints .u64 s.2.2, false)]) (fun e => b.length - e.1) (0, 0, 0, s.2.1) ?_ ?_ (fun e he => ?_))
    | (with_reducible refine awp_lp (c := .seq (.seq (.region 28 _ _) _) _) (σ := Nat × Nat × List Int) (fun y => (y.1 < 18446744073709551616 ∧ y.2.1 ≤ 1 ∧ y.2.2.length = a.length + 1) ∧ LY s.2.1 b s.1 y.1 y.2.1 y.2.2) (fun y => [(1, .rd .u64 b), (6, .v (.int .i64 b.length)), (7, .ow 448), (8, .ow 576), (9, .v (.int .i64 ((s.1 : Int) - 1))), (10, .v (.int .u64 y.1)), (16, .v (.int .u64 y.2.1))]) (fun y => [(448, .ints .u64 y.2.2, false), (576, .ints .u64 s.2.2, false)]) (fun y => y.1) (g, t) ?_ ?_ (fun y hy => ?_))
    | (with_reducible refine awp_lp (c := .seq (.region 32 _ _) _) (σ := Nat × Nat × List Int) (fun x => (x.1 ≤ b.length ∧ x.2.1 ≤ 1 ∧ x.2.2.length = a.length + 1) ∧ LX y.2.2 b s.1 x.1 x.2.1 x.2.2) (fun x => [(1, .rd .u64 b), (6, .v (.int .i64 b.length)), (7, .ow 448), (8, .ow 576), (9, .v (.int .i64 ((s.1 : Int) - 1))), (10, .v (.int .u64 ((y.1 : Int) - 1))), (16, .v (.int .u64 y.2.1)), (22, .v (.int .u64 x.2.1)), (182, .rd .u64 b), (183, .v (.int .i64 b.length)), (184, .v (.int .i64 x.1))]) (fun x => [(448, .ints .u64 x.2.2, false), (576, .ints .u64 s.2.2, false)]) (fun x => b.length - x.1) (0, 0, y.2.2) ?_ ?_ (fun x hx => ?_))
 | ((first | refine qr 39 [4,5] ?_ | refine Zh (a := .seq (.region 4 _ _) _) [6,7,8] ?_ | refine qr 3 [1,6,7,8] ?_ | refine qr 2 [1,6,7] ?_ | refine qr 1 [0,1,6] ?_ | refine qr 0 [0,1] ?_); intro V_0 v_0)
 | ((first | refine qb 1 [1,6,7,8,9] ?_ | refine Zh (a := .seq (.region 5 _ _) _) [1,6,7,8,9] ?_ | refine qr 4 [1,6,7,8,9] ?_); intro V_1 v_1)
 | ((first | refine qb 6 [1,6,7,8,9,10] ?_ | refine qr 27 [1,6,7,8,9,10,16] ?_ | refine Zh (a := .seq (.region 18 _ _) _) [1,6,7,8,9,10,15,16] ?_ | refine qr 17 [1,6,7,8,9,10,15,16] ?_ | refine Zh (a := .seq (.region 8 _ _) _) [1,6,7,8,9,10] ?_ | refine qr 7 [1,6,7,8,9,10] ?_ | refine qr 5 [1,6,7,8,9,41] ?_); intro V_2 v_2)
 | ((first | refine qr 36 [1,6,7,8,9,10,16,22] ?_ | refine Zh (a := .seq (.region 31 _ _) _) [1,6,7,8,9,10,16,22] ?_ | refine qr 30 [1,6,7,8,9,10,16,22] ?_ | refine qr 29 [1,6,7,8,9,10,16] ?_ | refine Zh (a := .seq (.region 28 _ _) _) [1,6,7,8,9,10,16] ?_ | refine qb 5 [1,6,7,8,9,10,15,16,121,122,123] ?_ | refine Zh (a := .cond (.tmp 124) _ _) [1,6,7,8,9,10,15,16,121,122,123] ?_ | refine qr 19 [1,6,7,8,9,10,15,16,121,122,123,124] ?_ | refine qr 18 [1,6,7,8,9,10,15,16,121,122,123] ?_ | refine qr 16 [1,6,7,8,9,10,11,120] ?_ | refine qr 15 [1,6,7,8,9,10,11,14] ?_ | refine qr 14 [1,6,7,8,9,10,11] ?_ | refine qr 13 [1,6,7,8,9,10,11] ?_ | refine Zh (a := .seq (.region 12 _ _) _) [1,6,7,8,9,10,11] ?_ | refine qr 11 [1,6,7,8,9,10,11,12,13] ?_ | refine qr 10 [1,6,7,8,9,10,11] ?_ | refine qr 9 [1,6,7,8,9] ?_ | refine qr 8 [1,6,7,8,9,10,55] ?_); intro V_3 v_3)
 | ((first | refine qb 9 [1,6,7,8,9,10,16,22,182,183,184] ?_ | refine Zh (a := .cond (.tmp 185) _ _) [1,6,7,8,9,10,16,22,182,183,184] ?_ | refine qr 32 [1,6,7,8,9,10,16,22,182,183,184,185] ?_ | refine qr 31 [1,6,7,8,9,10,16,22,182,183,184] ?_ | refine qr 28 [1,6,7,8,9,10,16,179] ?_ | refine qr 24 [1,6,7,8,9,10,15,16,17,20,121,122,123] ?_ | refine qr 23 [1,6,7,8,9,10,16,17,19,20,21,121,122,123] ?_ | refine qr 22 [1,6,7,8,9,10,15,16,17,19,20,121,122,123] ?_ | refine qr 21 [1,6,7,8,9,10,15,16,17,19,20,121,122,123] ?_ | refine qr 20 [1,6,7,8,9,10,15,16,17,18,121,122,123] ?_ | refine qr 12 [1,6,7,8,9,10,11,106] ?_); intro V_4 v_4)
 | ((first | refine qr 33 [1,6,7,8,9,10,16,22,23,24,182,183,184] ?_); intro V_5 v_5)
 | (refine ZM ?_; intro K hK)
 | (refine ZN ?_; intro all hall K hK)
 | (refine ZO ?_ ?_; kernel_rfl; intro all hall K hK)
 | (refine ZQ ?_ ?_)
 | (refine ZK ?_; kernel_rfl)
 | (refine Zg ?_; simp only [↓reduceIte, Nat.reduceEqDiff])
 | refine ZS ?_ | refine ZT ?_ | refine ZU ?_ | refine ZV ?_ | refine ZW ?_ | refine ZX ?_ | refine ZY ?_ | refine ZZ ?_ | refine Za ?_ | refine Ze ?_ | refine Zf ?_)
  all_goals try clear v_5 V_5
  all_goals try clear v_4 V_4
  all_goals try clear v_3 V_3
  all_goals try clear v_2 V_2
  all_goals try clear v_1 V_1
  all_goals try clear v_0 V_0
  all_goals (try simp only [inR])
  all_goals clear mE mT
  all_goals (obtain ⟨⟨la, pa⟩, ⟨lb, pb⟩, p2, hB⟩ := hp)
  all_goals (try (rcases x with ⟨xi, xc, xu⟩))
  all_goals (try (rcases y with ⟨yg, yw, yu⟩))
  all_goals (try (rcases e with ⟨ei, ec, ew, eu⟩))
  all_goals (try (rcases z with ⟨zg, zr⟩))
  all_goals (try (rcases s with ⟨k, u, q⟩))
  all_goals (try (rcases t with ⟨tw, tu⟩))
  all_goals (try (obtain ⟨xx, hx⟩ := hx))
  all_goals (try (obtain ⟨yy, hy⟩ := hy))
  all_goals (try (obtain ⟨ee, he⟩ := he))
  all_goals (try (obtain ⟨zz, hz⟩ := hz))
  all_goals (try (obtain ⟨tt, ht⟩ := ht))
  all_goals (try (obtain ⟨gg, hg⟩ := hg))
  all_goals (try (obtain ⟨ss, hs⟩ := hs))
  all_goals (try dsimp only at *)
  all_goals first
    | omega
    | with_reducible exact Ent.refl _ _
    | (have hk1 : 1 ≤ k := by omega
       have e1 : ((k : Int) - 1 + (b.length : Int)).toNat = k - 1 + b.length := by omega
       have e2 : ((k : Int) - 1 + (b.length : Int) - 1).toNat = k - 1 + b.length - 1 := by omega
       have e3 : ((b.length : Int) - 1).toNat = b.length - 1 := by omega
       have e4 : ((k : Int) - 1 + (b.length : Int) - 2).toNat = k - 1 + b.length - 2 := by omega
       have e5 : ((b.length : Int) - 2).toNat = b.length - 2 := by omega
       simp only [e1, e2, e3, e4, e5] at *
       clear e1 e2 e3 e4 e5)
    | skip
  · exact ⟨⟨Nat.le_refl _, by simp, by simp⟩, lo_init la p2 hB⟩
  · (refine Eo [(448, 448), (576, 576)] rfl ?_ ?_ <;> simp only [Me, Sl, AvLe, lk, ↓reduceIte, Nat.reduceEqDiff, Option.isSome_some, and_self, and_true, true_and, reduceCtorEq, List.map_nil, List.map_cons, Option.some.injEq, AV.v.injEq, Value.int.injEq, Value.bool.injEq, AV.rd.injEq, AV.ow.injEq, AV.al.injEq, AV.ref.injEq] <;> omega)
  · exact ⟨⟨(Mg hs.lu).1, by omega⟩, Mg hs.lu, by have := Mg hs.lu (i := k - 1 + b.length); omega, (Mg lb).2⟩
  · exact lg_init hs hk1 lb p2 hB (by omega)
  · (refine Eo [(448, 448), (576, 576)] rfl ?_ ?_ <;> simp only [Me, Sl, AvLe, lk, ↓reduceIte, Nat.reduceEqDiff, Option.isSome_some, and_self, and_true, true_and, reduceCtorEq, List.map_nil, List.map_cons, Option.some.injEq, AV.v.injEq, Value.int.injEq, Value.bool.injEq, AV.rd.injEq, AV.ow.injEq, AV.al.injEq, AV.ref.injEq] <;> omega)
  · exact ⟨⟨by omega, by omega⟩, Mg lb⟩
  · exact hj8 _ _ ⟨zg, zz.1, hz.ql⟩ (by (refine Eo [(448, 448), (576, 576)] rfl ?_ ?_ <;> simp only [Me, Sl, AvLe, lk, ↓reduceIte, Nat.reduceEqDiff, Option.isSome_some, and_self, and_true, true_and, reduceCtorEq, List.map_nil, List.map_cons, Option.some.injEq, AV.v.injEq, Value.int.injEq, Value.bool.injEq, AV.rd.injEq, AV.ow.injEq, AV.al.injEq, AV.ref.injEq] <;> omega))
  · exact ⟨by omega, (Mg lb).1⟩
  · have h4 := Mg hs.lu (i := k - 1 + b.length - 2)
    have h5 := Mg lb (i := b.length - 2)
    have h6 := Mg lb (i := b.length - 1)
    obtain ⟨d1, d2⟩ := lg_dec hs hk1 lb p2 hB hz (by omega)
    exact hj8 _ _ ⟨zg - 1, by omega, d2.ql⟩ (by (refine Eo [(448, 448), (576, 576)] rfl ?_ ?_ <;> simp only [Me, Sl, AvLe, lk, ↓reduceIte, Nat.reduceEqDiff, Option.isSome_some, and_self, and_true, true_and, reduceCtorEq, List.map_nil, List.map_cons, Option.some.injEq, AV.v.injEq, Value.int.injEq, Value.bool.injEq, AV.rd.injEq, AV.ow.injEq, AV.al.injEq, AV.ref.injEq] <;> omega))
  · have h4 := Mg hs.lu (i := k - 1 + b.length - 2)
    have h5 := Mg lb (i := b.length - 2)
    have h6 := Mg lb (i := b.length - 1)
    obtain ⟨d1, d2⟩ := lg_dec hs hk1 lb p2 hB hz (by omega)
    exact ⟨(zg - 1, zr + (b.getD (b.length - 1) 0).toNat), (by (refine Eo [(448, 448), (576, 576)] rfl ?_ ?_ <;> simp only [Me, Sl, AvLe, lk, ↓reduceIte, Nat.reduceEqDiff, Option.isSome_some, and_self, and_true, true_and, reduceCtorEq, List.map_nil, List.map_cons, Option.some.injEq, AV.v.injEq, Value.int.injEq, Value.bool.injEq, AV.rd.injEq, AV.ow.injEq, AV.al.injEq, AV.ref.injEq] <;> omega)), ⟨⟨by dsimp only; omega, by dsimp only; omega⟩, d2⟩, by dsimp only; omega⟩
  · exact ⟨by omega, (Mg lb).1⟩
  · have h4 := Mg hs.lu (i := k - 1 + b.length - 2)
    have h5 := Mg lb (i := b.length - 2)
    have h6 := Mg lb (i := b.length - 1)
    obtain ⟨d1, d2⟩ := lg_dec hs hk1 lb p2 hB hz (by omega)
    exact hj8 _ _ ⟨zg - 1, by omega, d2.ql⟩ (by (refine Eo [(448, 448), (576, 576)] rfl ?_ ?_ <;> simp only [Me, Sl, AvLe, lk, ↓reduceIte, Nat.reduceEqDiff, Option.isSome_some, and_self, and_true, true_and, reduceCtorEq, List.map_nil, List.map_cons, Option.some.injEq, AV.v.injEq, Value.int.injEq, Value.bool.injEq, AV.rd.injEq, AV.ow.injEq, AV.al.injEq, AV.ref.injEq] <;> omega))
  · have h4 := Mg hs.lu (i := k - 1 + b.length - 2)
    have h5 := Mg lb (i := b.length - 2)
    have h6 := Mg lb (i := b.length - 1)
    obtain ⟨d1, d2⟩ := lg_dec hs hk1 lb p2 hB hz (by omega)
    exact ⟨(zg - 1, zr + (b.getD (b.length - 1) 0).toNat), (by (refine Eo [(448, 448), (576, 576)] rfl ?_ ?_ <;> simp only [Me, Sl, AvLe, lk, ↓reduceIte, Nat.reduceEqDiff, Option.isSome_some, and_self, and_true, true_and, reduceCtorEq, List.map_nil, List.map_cons, Option.some.injEq, AV.v.injEq, Value.int.injEq, Value.bool.injEq, AV.rd.injEq, AV.ow.injEq, AV.al.injEq, AV.ref.injEq] <;> omega)), ⟨⟨by dsimp only; omega, by dsimp only; omega⟩, d2⟩, by dsimp only; omega⟩
  · exact hj8 _ _ ⟨zg, zz.1, hz.ql⟩ (by (refine Eo [(448, 448), (576, 576)] rfl ?_ ?_ <;> simp only [Me, Sl, AvLe, lk, ↓reduceIte, Nat.reduceEqDiff, Option.isSome_some, and_self, and_true, true_and, reduceCtorEq, List.map_nil, List.map_cons, Option.some.injEq, AV.v.injEq, Value.int.injEq, Value.bool.injEq, AV.rd.injEq, AV.ow.injEq, AV.al.injEq, AV.ref.injEq] <;> omega))
  · exact hj8 _ _ ⟨18446744073709551615, by omega, ql_top hs hk1 lb p2 hB⟩ (by (refine Eo [(448, 448), (576, 576)] rfl ?_ ?_ <;> simp only [Me, Sl, AvLe, lk, ↓reduceIte, Nat.reduceEqDiff, Option.isSome_some, and_self, and_true, true_and, reduceCtorEq, List.map_nil, List.map_cons, Option.some.injEq, AV.v.injEq, Value.int.injEq, Value.bool.injEq, AV.rd.injEq, AV.ow.injEq, AV.al.injEq, AV.ref.injEq] <;> omega))
  · exact ⟨⟨Nat.zero_le _, by omega, by omega, by omega⟩, lm_init hs.lu⟩
  · (refine Eo [(448, 448), (576, 576)] rfl ?_ ?_ <;> simp only [Me, Sl, AvLe, lk, ↓reduceIte, Nat.reduceEqDiff, Option.isSome_some, and_self, and_true, true_and, reduceCtorEq, List.map_nil, List.map_cons, Option.some.injEq, AV.v.injEq, Value.int.injEq, Value.bool.injEq, AV.rd.injEq, AV.ow.injEq, AV.al.injEq, AV.ref.injEq] <;> omega)
  · exact ⟨⟨by omega, by omega⟩, Mg lb⟩
  · have e6 : ((k : Int) - 1 + (ei : Int)).toNat = k - 1 + ei := by omega
    have h4 := Mg he.lu (i := k - 1 + ei)
    rw [e6]
    omega
  · have e6 : ((k : Int) - 1 + (ei : Int)).toNat = k - 1 + ei := by omega
    have h4 := Mg he.lu (i := k - 1 + ei)
    rw [e6]
    obtain ⟨c', w', s', f1, f2, f3, f4, f5, f6, f7⟩ := sub_word (pr := g * (b.getD ei 0).toNat) (c := ec) (w := ew) (x := eu.getD (k - 1 + ei) 0) (prod_le gg (by have := Mg lb (i := ei); omega)) (by omega) (by omega) h4
    rw [f1, f2, f3]
    exact ⟨(ei + 1, c', w', eu.set (k - 1 + ei) (s' : Int)), (by (refine Eo [(448, 448), (576, 576)] rfl ?_ ?_ <;> simp only [Me, Sl, AvLe, lk, ↓reduceIte, Nat.reduceEqDiff, Option.isSome_some, and_self, and_true, true_and, reduceCtorEq, List.map_nil, List.map_cons, Option.some.injEq, AV.v.injEq, Value.int.injEq, Value.bool.injEq, AV.rd.injEq, AV.ow.injEq, AV.al.injEq, AV.ref.injEq] <;> omega)), ⟨⟨by dsimp only; omega, f5, f6, by simp; omega⟩, lm_step he (by omega) f7 f4⟩, by dsimp only; omega⟩
  · have h4 := Mg he.lu (i := k - 1 + b.length)
    omega
  · have h4 := Mg he.lu (i := k - 1 + b.length)
    have hei : ei = b.length := by omega
    subst hei
    obtain ⟨w', s', f1, f2, f3, f4, f5⟩ := sub_last (c := ec) (w := ew) (x := eu.getD (k - 1 + b.length) 0) (by omega) (by omega) h4
    rw [f1, f2]
    exact hj27 _ _ ⟨(w', eu.set (k - 1 + b.length) (s' : Int)), ⟨f4, by simp; omega⟩, lm_last he hg (by omega) f5 f3⟩ (by (refine Eo [(448, 448), (576, 576)] rfl ?_ ?_ <;> simp only [Me, Sl, AvLe, lk, ↓reduceIte, Nat.reduceEqDiff, Option.isSome_some, and_self, and_true, true_and, reduceCtorEq, List.map_nil, List.map_cons, Option.some.injEq, AV.v.injEq, Value.int.injEq, Value.bool.injEq, AV.rd.injEq, AV.ow.injEq, AV.al.injEq, AV.ref.injEq] <;> omega))
  · exact ⟨⟨gg, tt.1, tt.2⟩, ht⟩
  · exact ⟨⟨Nat.zero_le _, by omega, by omega⟩, lx_init hy.lu⟩
  · have hyw : yw = 1 := by omega
    subst hyw
    have h6 := ly_pos hs hk1 lb p2 hB hy
    (refine Eo [(448, 448), (576, 576)] rfl ?_ ?_ <;> simp only [Me, Sl, AvLe, lk, ↓reduceIte, Nat.reduceEqDiff, Option.isSome_some, and_self, and_true, true_and, reduceCtorEq, List.map_nil, List.map_cons, Option.some.injEq, AV.v.injEq, Value.int.injEq, Value.bool.injEq, AV.rd.injEq, AV.ow.injEq, AV.al.injEq, AV.ref.injEq] <;> omega)
  · have e6 : ((k : Int) - 1 + (xi : Int)).toNat = k - 1 + xi := by omega
    have h4 := Mg hx.lu (i := k - 1 + xi)
    have h5 := Mg lb (i := xi)
    rw [e6]
    omega
  · have e6 : ((k : Int) - 1 + (xi : Int)).toNat = k - 1 + xi := by omega
    have h4 := Mg hx.lu (i := k - 1 + xi)
    have h5 := Mg lb (i := xi)
    rw [e6]
    obtain ⟨c', s', f1, f2, f3, f4, f5⟩ := add_word (c := xc) (by omega) h4 h5
    rw [f1, f2]
    exact ⟨(xi + 1, c', xu.set (k - 1 + xi) (s' : Int)), (by (refine Eo [(448, 448), (576, 576)] rfl ?_ ?_ <;> simp only [Me, Sl, AvLe, lk, ↓reduceIte, Nat.reduceEqDiff, Option.isSome_some, and_self, and_true, true_and, reduceCtorEq, List.map_nil, List.map_cons, Option.some.injEq, AV.v.injEq, Value.int.injEq, Value.bool.injEq, AV.rd.injEq, AV.ow.injEq, AV.al.injEq, AV.ref.injEq] <;> omega)), ⟨⟨by dsimp only; omega, f4, by simp; omega⟩, lx_step hx (by omega) f5 f3⟩, by dsimp only; omega⟩
  · have h4 := Mg hx.lu (i := k - 1 + b.length)
    omega
  · have h4 := Mg hx.lu (i := k - 1 + b.length)
    have hxi : xi = b.length := by omega
    subst hxi
    have hyw : yw = 1 := by omega
    subst hyw
    obtain ⟨c', s', f1, f2, f3, f4, f5⟩ := add_word (c := xc) (y := 0) (by omega) h4 ⟨by omega, by omega⟩
    have h6 := ly_pos hs hk1 lb p2 hB hy
    rw [f1, f2]
    exact ⟨(yg - 1, 1 - c', xu.set (k - 1 + b.length) (s' : Int)), (by (refine Eo [(448, 448), (576, 576)] rfl ?_ ?_ <;> simp only [Me, Sl, AvLe, lk, ↓reduceIte, Nat.reduceEqDiff, Option.isSome_some, and_self, and_true, true_and, reduceCtorEq, List.map_nil, List.map_cons, Option.some.injEq, AV.v.injEq, Value.int.injEq, Value.bool.injEq, AV.rd.injEq, AV.ow.injEq, AV.al.injEq, AV.ref.injEq] <;> omega)), ⟨⟨by dsimp only; omega, by dsimp only; omega, by simp; omega⟩, lx_last hs hk1 lb p2 hB hy hx (by omega) f5 f4 f3⟩, by dsimp only; omega⟩
  · have hyw : yw = 0 := by omega
    subst hyw
    have e8 : ((k : Int) - 1).toNat = k - 1 := by omega
    rw [e8]
    exact ⟨(k - 1, yu, q.set (k - 1) (yg : Int)), (by (refine Eo [(448, 448), (576, 576)] rfl ?_ ?_ <;> simp only [Me, Sl, AvLe, lk, ↓reduceIte, Nat.reduceEqDiff, Option.isSome_some, and_self, and_true, true_and, reduceCtorEq, List.map_nil, List.map_cons, Option.some.injEq, AV.v.injEq, Value.int.injEq, Value.bool.injEq, AV.rd.injEq, AV.ow.injEq, AV.al.injEq, AV.ref.injEq] <;> omega)), ⟨⟨by dsimp only; omega, by dsimp only; omega, by simp; omega⟩, lo_next hs hk1 lb p2 hB yy.1 hy (by omega)⟩, by dsimp only; omega⟩
  · have h6 := sz_le q
    omega
  · rw [List.length_take]; omega
  · have h6 := sz_le (List.take (min (b.length : Int) (u.length : Int)).toNat u)
    rw [List.length_take] at h6
    omega
  · have hk0 : k = 0 := by omega
    subst hk0
    obtain ⟨r1, r2, r3⟩ := lo_fin hs lb hB
    have e : sz (List.take (min (b.length : Int) (u.length : Int)).toNat u) = sz u := by
      by_cases h : b.length ≤ u.length
      · rw [show (min (b.length : Int) (u.length : Int)).toNat = b.length by omega]; exact r3
      · rw [show (min (b.length : Int) (u.length : Int)).toNat = u.length by omega, List.take_length]
    rw [e, Ts hs.lq, Ts hs.lu, r1, r2]
    all_goals exact ⟨rfl, rfl⟩
theorem sound_232 : Sound Tryz.prog 232 .body (norm s232) := by
  refine sb Tryz.func232 rfl (by kernel_rfl) G232_ok (by kernel_rfl) fun ds p r hs hp => ?_
  unfold s232 at hs
  split at hs
  · cases hs; exact ⟨Nat.le_of_ble_eq_true (by kernel_rfl), wk232 _ _ hp⟩
  · cases hs
noncomputable def s196 : Cs := fun ds => match ds with
  | [.sl .u64 a, .sl .u64 b] => some (((lim a ∧ sz a = a.length) ∧ a.length ≤ 70000000) ∧ ((lim b ∧ sz b = b.length) ∧ b.length ≤ 70000000) ∧ val b ≠ 0, .many [.fresh .u64 (limbs (val a / val b)), .fresh .u64 (limbs (val a % val b))])
  | _ => none
theorem s196_eq (a : List Int) (b : List Int) : norm s196 [.sl .u64 a, .sl .u64 b] = s196 [.sl .u64 a, .sl .u64 b] := rfl
theorem s196_nil1  (b : List Int) : norm s196 [.v (.slice none 0 0), .sl .u64 b] = s196 [.sl .u64 [], .sl .u64 b] := rfl
theorem s196_nil2 (a : List Int)  : norm s196 [.sl .u64 a, .v (.slice none 0 0)] = s196 [.sl .u64 a, .sl .u64 []] := rfl
theorem s196_nil3   : norm s196 [.v (.slice none 0 0), .v (.slice none 0 0)] = s196 [.sl .u64 [], .sl .u64 []] := rfl
noncomputable def G196 : Gam := [(97, .body, norm s97), (131, .body, norm s131), (141, .body, norm s141), (142, .body, norm s142), (168, .body, norm s168), (218, .body, norm s218), (231, .body, norm s231), (232, .body, norm s232)]
theorem G196_ok : Gk Tryz.prog G196 := Gc sound_97 (Gc sound_131 (Gc sound_141 (Gc sound_142 (Gc sound_168 (Gc sound_218 (Gc sound_231 (Gc sound_232 Gn)))))))
theorem k196_97 : lk G196 97 = some (.body, norm s97) := rfl
theorem k196_131 : lk G196 131 = some (.body, norm s131) := rfl
theorem k196_141 : lk G196 141 = some (.body, norm s141) := rfl
theorem k196_142 : lk G196 142 = some (.body, norm s142) := rfl
theorem k196_168 : lk G196 168 = some (.body, norm s168) := rfl
theorem k196_218 : lk G196 218 = some (.body, norm s218) := rfl
theorem k196_231 : lk G196 231 = some (.body, norm s231) := rfl
theorem k196_232 : lk G196 232 = some (.body, norm s232) := rfl
theorem wk196 (a : List Int) (b : List Int) (hp : ((lim a ∧ sz a = a.length) ∧ a.length ≤ 70000000) ∧ ((lim b ∧ sz b = b.length) ∧ b.length ≤ 70000000) ∧ val b ≠ 0) : awp ty G196 (code Tryz.f196) (retP ty Tryz.f196.results.toList (.many [.fresh .u64 (limbs (val a / val b)), .fresh .u64 (limbs (val a % val b))])) (entry 0 [.sl .u64 a, .sl .u64 b]) [] := by
  unfold code
  simp only [Tryz.f196, Option.getD_some]
  obtain ⟨⟨⟨la, sa⟩, pa⟩, ⟨⟨lb, sb⟩, pb⟩, hb0⟩ := hp
  have za := sz_le a
  have zb := sz_le b
  have hb1 : 1 ≤ b.length := by
    have := (not_congr (sz_zero lb)).2 hb0
    omega
  have eb : ((b.length : Int) - 1).toNat = b.length - 1 := by omega
  have hw := Mg lb (i := b.length - 1)
  have hbl : blen (b.getD (b.length - 1) 0).toNat ≤ 64 := blen_lt.2 (by omega)
  obtain ⟨sh, hsh⟩ : ∃ sh, 64 - blen (b.getD (b.length - 1) 0).toNat = sh := ⟨_, rfl⟩
  have hsN : (64 : Int) - (blen (b.getD (b.length - 1) 0).toNat : Int) = (sh : Int) := by omega
  have tN : ((sh : Int)).toNat = sh := Int.toNat_natCast sh
  have hw0 : b.getD (b.length - 1) 0 ≠ 0 := by
    have := sz_top (a := b) (by omega)
    rw [sb] at this; exact this
  all_goals repeat' (first
 | ((with_reducible first | (refine ZA ?_; intro X hX) | (show awp _ _ _ _ (Kp _ _) _) | refine ZD ?_ | refine ZE ?_ | refine ZF ?_ | ((show Bg _ _ _ _ _); simp only [hall]) | (refine ZR ?_ ?_ <;> intro hb <;> (try simp only [hb]) <;> have hq := hb <;> try simp only [HQ] at hq)) <;> try simp only [Go.AM.SS, Nat.reduceAdd, Nat.reduceMul, Nat.reduceSub, ↓reduceIte, Nat.reduceEqDiff, Nat.reduceLT, Nat.reduceLeDiff, reduceCtorEq, Int.reduceBEq, Int.reduceBNe, Nat.reduceBEq, Int.reduceEq, Int.reduceToNat, Int.reduceLE, Int.reduceLT, Nat.reduceDiv, Int.reduceAdd, Int.reduceSub, Int.reduceMul, Int.reduceNeg, Int.reduceGT, Int.reduceGE, Nat.reduceMod, k196_97, s97.eq_1, s97_eq, k196_131, s131.eq_1, s131_eq, s131_nil1, k196_141, s141.eq_1, s141_eq, s141_nil1, s141_nil2, s141_nil3, k196_142, s142.eq_1, s142_eq, s142_nil1, k196_168, s168.eq_1, s168_eq, s168_nil1, k196_218, s218.eq_1, s218_eq, k196_231, s231.eq_1, s231_eq, s231_nil1, k196_232, s232.eq_1, s232_eq, s232_nil1, s232_nil2, s232_nil3, ty_3, ty_22, ty_50, cmpI_neg, eb, Vl, hsN, tN])
 | with_reducible first
 | (refine hX _ _ ?_; clear hX X)
 | (refine ZG ?_; try clear hall all)
 | (refine hK _ _ ?_; clear hK K)
 | refine ZL ?_
 | (refine v_0 _ _ ?_; try clear v_0 V_0)
 | (refine v_1 _ _ ?_; try clear v_1 V_1)
 | ((first | refine qr 11 [4,5] ?_ | refine qr 10 [13,14] ?_ | refine qr 9 [8,13,14] ?_ | refine qr 8 [8,9,11] ?_ | refine qr 7 [1,8,9] ?_ | refine qr 6 [0,1,8] ?_ | refine qb 0 [0,1] ?_ | refine qr 0 [0,1] ?_); intro V_0 v_0)
 | ((first | refine qr 2 [4,5] ?_ | refine qr 5 [4,5] ?_ | refine qr 4 [6,7] ?_ | refine qr 3 [0,1,22] ?_ | refine qr 1 [0,1,15] ?_); intro V_1 v_1)
 | (refine ZM ?_; intro K hK)
 | (refine ZN ?_; intro all hall K hK)
 | (refine ZQ ?_ ?_)
 | (refine Zg ?_; simp only [↓reduceIte, Nat.reduceEqDiff])
 | refine ZS ?_ | refine ZT ?_ | refine ZU ?_ | refine ZV ?_ | refine ZW ?_ | refine ZX ?_ | refine Ze ?_ | refine Zf ?_)
  all_goals try clear v_1 V_1
  all_goals try clear v_0 V_0
  all_goals (try simp only [inR])
  all_goals (have hsh63 : sh ≤ 63 := by have := @blen_zero (b.getD (b.length - 1) 0).toNat; omega)
  all_goals first
    | omega
    | skip
  · exact ⟨⟨la, by omega⟩, lb, by omega⟩
  · exact ⟨la, by omega⟩
  · rw [Nat.div_eq_of_lt hq, Nat.mod_eq_of_lt hq]; exact ⟨rfl, rfl⟩
  · have h0 : b.length - 1 = 0 := by omega
    rw [h0] at hw hw0
    exact ⟨⟨la, by omega⟩, by omega, by omega⟩
  · have h0 : b.length - 1 = 0 := by omega
    rw [h0] at hw hw0
    have := Nat.mod_lt (val a) (show 0 < (b.getD 0 0).toNat by omega)
    generalize val a % (b.getD 0 0).toNat = r at *
    omega
  · have h1 := val_one_word (b := b) (by omega)
    rw [h1]; exact ⟨rfl, rfl⟩
  · exact ⟨⟨la, by omega⟩, by omega, by omega⟩
  · exact ⟨⟨lb, by omega⟩, by omega, by omega⟩
  · have h1 := norm_len lb sb (by omega) hsh
    have h2 := len_shift (a := val a) (s := sh) (by omega)
    have h3 := Lz la
    exact ⟨⟨Ml _, by omega⟩, ⟨Ml _, by omega⟩, by omega, h1.2⟩
  · have h1 := norm_len lb sb (by omega) hsh
    have h2 : 0 < val b * 2 ^ sh := Nat.mul_pos (by omega) (Nat.two_pow_pos _)
    have h3 := len_mono (Nat.le_of_lt (Nat.mod_lt (val a * 2 ^ sh) h2))
    exact ⟨⟨Ml _, by omega⟩, by omega, by omega⟩
  · rw [shift_back.1, shift_back.2]; exact ⟨rfl, rfl⟩
theorem sound_196 : Sound Tryz.prog 196 .body (norm s196) := by
  refine sb Tryz.func196 rfl (by kernel_rfl) G196_ok (by kernel_rfl) fun ds p r hs hp => ?_
  unfold s196 at hs
  split at hs
  · cases hs; exact ⟨Nat.le_of_ble_eq_true (by kernel_rfl), wk196 _ _ hp⟩
  · cases hs
noncomputable def s137 : Cs := fun ds => match ds with
  | [.sl .u64 a, .sl .u64 b] => some ((lim a ∧ a.length ≤ 70000000) ∧ (lim b ∧ b.length ≤ 70000000) ∧ val b ≠ 0 ∧ sz a ≤ 2000 ∧ sz b ≤ 2000, .many [.fresh .u64 (limbs (val a / val b)), .fresh .u64 (limbs (val a % val b)), .v (.int .i64 0)])
  | _ => none
theorem s137_eq (a : List Int) (b : List Int) : norm s137 [.sl .u64 a, .sl .u64 b] = s137 [.sl .u64 a, .sl .u64 b] := rfl
theorem s137_nil1  (b : List Int) : norm s137 [.v (.slice none 0 0), .sl .u64 b] = s137 [.sl .u64 [], .sl .u64 b] := rfl
theorem s137_nil2 (a : List Int)  : norm s137 [.sl .u64 a, .v (.slice none 0 0)] = s137 [.sl .u64 a, .sl .u64 []] := rfl
theorem s137_nil3   : norm s137 [.v (.slice none 0 0), .v (.slice none 0 0)] = s137 [.sl .u64 [], .sl .u64 []] := rfl
noncomputable def G137 : Gam := [(193, .body, norm s193), (196, .body, norm s196)]
theorem G137_ok : Gk Tryz.prog G137 := Gc sound_193 (Gc sound_196 Gn)
theorem k137_193 : lk G137 193 = some (.body, norm s193) := rfl
theorem k137_196 : lk G137 196 = some (.body, norm s196) := rfl
theorem wk137 (a : List Int) (b : List Int) (hp : (lim a ∧ a.length ≤ 70000000) ∧ (lim b ∧ b.length ≤ 70000000) ∧ val b ≠ 0 ∧ sz a ≤ 2000 ∧ sz b ≤ 2000) : awp ty G137 (code Tryz.f137) (retP ty Tryz.f137.results.toList (.many [.fresh .u64 (limbs (val a / val b)), .fresh .u64 (limbs (val a % val b)), .v (.int .i64 0)])) (entry 0 [.sl .u64 a, .sl .u64 b]) [] := by
  unfold code
  simp only [Tryz.f137, Option.getD_some]
  have za := sz_le a
  have zb := sz_le b
  have ya := Lz hp.1.1
  have yb := Lz hp.2.1.1
  have xb := (not_congr (sz_zero hp.2.1.1)).2 hp.2.2.1
  have wa := sz_limbs (val a)
  have wb := sz_limbs (val b)
  all_goals repeat' (first
 | ((with_reducible first | (refine ZA ?_; intro X hX) | (refine ZB ?_; intro X hX) | (show awp _ _ _ _ (Kp _ _) _) | refine ZD ?_ | refine ZE ?_ | refine ZF ?_ | ((show Bg _ _ _ _ _); simp only [hall]) | (refine ZR ?_ ?_ <;> intro hb <;> (try simp only [hb]) <;> have hq := hb <;> try simp only [HQ] at hq)) <;> try simp only [Go.AM.SS, Nat.reduceAdd, Nat.reduceMul, Nat.reduceSub, ↓reduceIte, Nat.reduceEqDiff, Nat.reduceLT, Nat.reduceLeDiff, reduceCtorEq, Int.reduceBEq, Int.reduceBNe, Nat.reduceBEq, Int.reduceEq, Int.reduceToNat, Int.reduceLE, Int.reduceLT, Nat.reduceDiv, Int.reduceAdd, Int.reduceSub, Int.reduceMul, Int.reduceNeg, Int.reduceGT, Int.reduceGE, Nat.reduceMod, k137_193, s193.eq_1, s193_eq, s193_nil1, k137_196, s196.eq_1, s196_eq, s196_nil1, s196_nil2, s196_nil3, ty_3, ty_22, ty_50, Ts hp.1.1, Ts hp.2.1.1, Vl])
 | with_reducible first
 | (refine hX _ _ ?_; clear hX X)
 | (refine ZG ?_; try clear hall all)
 | (refine ZH ?_; try clear hall all)
 | (refine hK _ _ ?_; clear hK K)
 | refine ZL ?_
 | (refine v_0 _ _ ?_; try clear v_0 V_0)
 | (refine v_1 _ _ ?_; try clear v_1 V_1)
 | ((first | refine qr 7 [4,5,6] ?_ | refine qr 6 [7,8] ?_ | refine qb 0 [0,1] ?_ | refine qr 1 [0,1] ?_ | refine qr 0 [0,1] ?_); intro V_0 v_0)
 | ((first | refine qr 3 [4,5,6] ?_ | refine qr 5 [4,5,6] ?_ | refine qr 4 [0,1,21] ?_ | refine qr 2 [0,1,17] ?_); intro V_1 v_1)
 | (refine ZM ?_; intro K hK)
 | (refine ZN ?_; intro all hall K hK)
 | (refine ZO ?_ ?_; kernel_rfl; intro all hall K hK)
 | (refine ZQ ?_ ?_)
 | (refine ZK ?_; kernel_rfl)
 | (refine Zg ?_; simp only [↓reduceIte, Nat.reduceEqDiff])
 | refine ZS ?_ | refine ZT ?_ | refine ZU ?_ | refine ZV ?_ | refine ZW ?_ | refine ZX ?_ | refine Ze ?_ | refine Zf ?_)
  all_goals try clear v_1 V_1
  all_goals try clear v_0 V_0
  all_goals (try simp only [inR])
  all_goals first
    | omega
    | exact ⟨⟨⟨Ml _, sz_limbs _⟩, by omega⟩, ⟨⟨Ml _, sz_limbs _⟩, by omega⟩, hp.2.2.1⟩
    | rfl
theorem sound_137 : Sound Tryz.prog 137 .body (norm s137) := by
  refine sb Tryz.func137 rfl (by kernel_rfl) G137_ok (by kernel_rfl) fun ds p r hs hp => ?_
  unfold s137 at hs
  split at hs
  · cases hs; exact ⟨Nat.le_of_ble_eq_true (by kernel_rfl), wk137 _ _ hp⟩
  · cases hs
noncomputable def s138 : Cs := fun ds => match ds with
  | [.sl .u64 a, .sl .u64 b] => some ((lim a ∧ a.length ≤ 90000000) ∧ (lim b ∧ b.length ≤ 90000000) ∧ val b ≤ val a, .many [.fresh .u64 (limbs (val a - val b)), .v (.int .i64 0)])
  | _ => none
theorem s138_eq (a : List Int) (b : List Int) : norm s138 [.sl .u64 a, .sl .u64 b] = s138 [.sl .u64 a, .sl .u64 b] := rfl
theorem s138_nil1  (b : List Int) : norm s138 [.v (.slice none 0 0), .sl .u64 b] = s138 [.sl .u64 [], .sl .u64 b] := rfl
theorem s138_nil2 (a : List Int)  : norm s138 [.sl .u64 a, .v (.slice none 0 0)] = s138 [.sl .u64 a, .sl .u64 []] := rfl
theorem s138_nil3   : norm s138 [.v (.slice none 0 0), .v (.slice none 0 0)] = s138 [.sl .u64 [], .sl .u64 []] := rfl
noncomputable def G138 : Gam := [(131, .body, norm s131), (141, .body, norm s141), (153, .ext, sSub64), (193, .body, norm s193)]
theorem G138_ok : Gk Tryz.prog G138 := Gc sound_131 (Gc sound_141 (Gc ext_153 (Gc sound_193 Gn)))
theorem k138_131 : lk G138 131 = some (.body, norm s131) := rfl
theorem k138_141 : lk G138 141 = some (.body, norm s141) := rfl
theorem k138_153 : lk G138 153 = some (.ext, sSub64) := rfl
theorem k138_193 : lk G138 193 = some (.body, norm s193) := rfl
theorem wk138 (a : List Int) (b : List Int) (hp : (lim a ∧ a.length ≤ 90000000) ∧ (lim b ∧ b.length ≤ 90000000) ∧ val b ≤ val a) : awp ty G138 (code Tryz.f138) (retP ty Tryz.f138.results.toList (.many [.fresh .u64 (limbs (val a - val b)), .v (.int .i64 0)])) (entry 0 [.sl .u64 a, .sl .u64 b]) [] := by
  unfold code
  simp only [Tryz.f138, Option.getD_some]
  have ya := Lz hp.1.1
  have za := sz_le a
  have hc : decide (cmpI (val a) (val b) < 0) = false := by simp only [cmpI_neg, decide_eq_false_iff_not]; omega
  all_goals repeat' (first
 | ((with_reducible first | (refine ZA ?_; intro X hX) | (show awp _ _ _ _ (Kp _ _) _) | refine ZD ?_ | refine ZE ?_ | refine ZF ?_ | ((show Bg _ _ _ _ _); simp only [hall]) | (refine ZR ?_ ?_ <;> intro hb <;> (try simp only [hb]) <;> have hq := hb <;> try simp only [HQ] at hq)) <;> try simp only [Go.AM.SS, Nat.reduceAdd, Nat.reduceMul, Nat.reduceSub, ↓reduceIte, Nat.reduceEqDiff, Nat.reduceLT, Nat.reduceLeDiff, reduceCtorEq, Int.reduceBEq, Int.reduceBNe, Nat.reduceBEq, Int.reduceEq, Int.reduceToNat, Int.reduceLE, Int.reduceLT, Nat.reduceDiv, Int.reduceAdd, Int.reduceSub, Int.reduceMul, Int.reduceNeg, Int.reduceGT, Int.reduceGE, Nat.reduceMod, k138_131, s131.eq_1, s131_eq, s131_nil1, k138_141, s141.eq_1, s141_eq, s141_nil1, s141_nil2, s141_nil3, k138_153, sSub64_eq, k138_193, s193.eq_1, s193_eq, s193_nil1, ty_3, ty_22, ty_50, hc])
 | with_reducible first
 | (refine hX _ _ ?_; clear hX X)
 | (refine ZG ?_; try clear hall all)
 | (refine hK _ _ ?_; clear hK K)
 | refine ZL ?_
 | (refine v_0 _ _ ?_; try clear v_0 V_0)
 | (refine v_1 _ _ ?_; try clear v_1 V_1)
 | (refine v_2 _ _ ?_; try clear v_2 V_2)
 | (refine v_3 _ _ ?_; try clear v_3 V_3)
    | (with_reducible refine awp_lp (σ := Nat × Nat × List Int) (fun s => s.1 ≤ (limbs (val a)).length ∧ s.2.1 ≤ 1 ∧ lim s.2.2 ∧ s.2.2.length = (limbs (val a)).length ∧ s.2.2.drop s.1 = (limbs (val a)).drop s.1 ∧ val (s.2.2.take s.1) + val (b.take s.1) = val ((limbs (val a)).take s.1) + s.2.1 * 2 ^ (64 * s.1)) (fun s => [(1, .rd .u64 b), (6, .ow 240), (7, .v (.int .u64 s.2.1)), (17, .v (.int .i64 (limbs (val a)).length)), (18, .v (.int .i64 s.1))]) (fun s => [(240, .ints .u64 s.2.2, false)]) (fun s => (limbs (val a)).length - s.1) (0, 0, limbs (val a)) ?_ ?_ (fun s hs => ?_))
 | ((first | refine qr 13 [4,5] ?_ | refine Zh (a := .seq (.region 5 _ _) _) [6] ?_ | refine qr 4 [1,6,7] ?_ | refine qr 3 [1,6] ?_ | refine Zh (a := .seq (.region 1 _ _) _) [0,1] ?_ | refine qr 0 [0,1] ?_); intro V_0 v_0)
 | ((first | refine qb 1 [1,6,7,17,18] ?_ | refine Zh (a := .cond (.tmp 19) _ _) [1,6,7,17,18] ?_ | refine qr 6 [1,6,7,17,18,19] ?_ | refine qr 5 [1,6,7,17,18] ?_ | refine qr 2 [4,5] ?_ | refine qr 1 [0,1,13] ?_); intro V_1 v_1)
 | ((first | refine Zh (a := .seq (.region 9 _ _) _) [1,6,7,8,9,17,18] ?_ | refine qr 8 [1,6,7,8,9,17,18] ?_ | refine qr 7 [1,6,7,8,17,18] ?_); intro V_2 v_2)
 | ((first | refine qr 9 [1,6,7,8,9,17,18,24] ?_); intro V_3 v_3)
 | (refine ZM ?_; intro K hK)
 | (refine ZN ?_; intro all hall K hK)
 | (refine ZQ ?_ ?_)
 | (refine Zg ?_; simp only [↓reduceIte, Nat.reduceEqDiff])
 | refine ZS ?_ | refine ZT ?_ | refine ZU ?_ | refine ZV ?_ | refine ZW ?_ | refine ZX ?_ | refine ZY ?_ | refine ZZ ?_ | refine Za ?_ | refine Ze ?_ | refine Zf ?_)
  all_goals try clear v_3 V_3
  all_goals try clear v_2 V_2
  all_goals try clear v_1 V_1
  all_goals try clear v_0 V_0
  all_goals (try (rcases s with ⟨i, c, o⟩))
  all_goals (try dsimp only at *)
  all_goals (try simp only [inR])
  all_goals (try omega)
  · exact ⟨⟨hp.1.1, by omega⟩, hp.2.1.1, by omega⟩
  · exact ⟨hp.1.1, by omega⟩
  · exact ⟨Nat.zero_le _, by omega, Ml _, trivial, trivial, by simp [val]⟩
  · exact Ent.refl _ _
  · have h1 := Mg hs.2.2.1 (i := i)
    have h2 := Mg hp.2.1.1 (i := i)
    omega
  · have h1 := Mg hs.2.2.1 (i := i)
    have h2 := Mg hp.2.1.1 (i := i)
    have h3 := sub_step hs.2.2.1 hp.2.1.1 hs.2.1 (by omega) hs.2.2.2.2.1 hs.2.2.2.1 hs.2.2.2.2.2
    have h4 := drop_succ_of hs.2.2.2.2.1
    by_cases hlt : o.getD i 0 < b.getD i 0 + (c : Int)
    · rw [if_pos hlt] at h3 ⊢
      refine ⟨(i + 1, 1, o.set i ((o.getD i 0 - b.getD i 0 - (c : Int)) % 18446744073709551616)), by (refine Eo [(240, 240)] rfl ?_ ?_ <;> simp only [Me, Sl, AvLe, lk, ↓reduceIte, Nat.reduceEqDiff, Option.isSome_some, and_self, and_true, true_and, reduceCtorEq, List.map_nil, List.map_cons, Option.some.injEq, AV.v.injEq, Value.int.injEq, Value.bool.injEq, AV.rd.injEq, AV.ow.injEq, AV.al.injEq, AV.ref.injEq] <;> omega), ⟨by dsimp only; omega, by dsimp only; omega, lim_set hs.2.2.1 (by omega) i, by simp [hs.2.2.2.1], by dsimp only; rw [drop_set_succ, h4], h3⟩, by dsimp only; omega⟩
    · rw [if_neg hlt] at h3 ⊢
      refine ⟨(i + 1, 0, o.set i ((o.getD i 0 - b.getD i 0 - (c : Int)) % 18446744073709551616)), by (refine Eo [(240, 240)] rfl ?_ ?_ <;> simp only [Me, Sl, AvLe, lk, ↓reduceIte, Nat.reduceEqDiff, Option.isSome_some, and_self, and_true, true_and, reduceCtorEq, List.map_nil, List.map_cons, Option.some.injEq, AV.v.injEq, Value.int.injEq, Value.bool.injEq, AV.rd.injEq, AV.ow.injEq, AV.al.injEq, AV.ref.injEq] <;> omega), ⟨by dsimp only; omega, by dsimp only; omega, lim_set hs.2.2.1 (by omega) i, by simp [hs.2.2.2.1], by dsimp only; rw [drop_set_succ, h4], h3⟩, by dsimp only; omega⟩
  · have h1 := Mg hs.2.2.1 (i := i)
    omega
  · have h1 := Mg hs.2.2.1 (i := i)
    have h0 : b.getD i 0 = 0 := getD_out (by omega)
    have h2 := Mg hp.2.1.1 (i := i)
    have h3 := sub_step hs.2.2.1 hp.2.1.1 hs.2.1 (by omega) hs.2.2.2.2.1 hs.2.2.2.1 hs.2.2.2.2.2
    have h4 := drop_succ_of hs.2.2.2.2.1
    rw [h0] at h3
    by_cases hlt : o.getD i 0 < 0 + (c : Int)
    · rw [if_pos hlt] at h3 ⊢
      refine ⟨(i + 1, 1, o.set i ((o.getD i 0 - 0 - (c : Int)) % 18446744073709551616)), by (refine Eo [(240, 240)] rfl ?_ ?_ <;> simp only [Me, Sl, AvLe, lk, ↓reduceIte, Nat.reduceEqDiff, Option.isSome_some, and_self, and_true, true_and, reduceCtorEq, List.map_nil, List.map_cons, Option.some.injEq, AV.v.injEq, Value.int.injEq, Value.bool.injEq, AV.rd.injEq, AV.ow.injEq, AV.al.injEq, AV.ref.injEq] <;> omega), ⟨by dsimp only; omega, by dsimp only; omega, lim_set hs.2.2.1 (by omega) i, by simp [hs.2.2.2.1], by dsimp only; rw [drop_set_succ, h4], h3⟩, by dsimp only; omega⟩
    · rw [if_neg hlt] at h3 ⊢
      refine ⟨(i + 1, 0, o.set i ((o.getD i 0 - 0 - (c : Int)) % 18446744073709551616)), by (refine Eo [(240, 240)] rfl ?_ ?_ <;> simp only [Me, Sl, AvLe, lk, ↓reduceIte, Nat.reduceEqDiff, Option.isSome_some, and_self, and_true, true_and, reduceCtorEq, List.map_nil, List.map_cons, Option.some.injEq, AV.v.injEq, Value.int.injEq, Value.bool.injEq, AV.rd.injEq, AV.ow.injEq, AV.al.injEq, AV.ref.injEq] <;> omega), ⟨by dsimp only; omega, by dsimp only; omega, lim_set hs.2.2.1 (by omega) i, by simp [hs.2.2.2.1], by dsimp only; rw [drop_set_succ, h4], h3⟩, by dsimp only; omega⟩
  all_goals (have hi : i = (limbs (val a)).length := by omega)
  all_goals (subst hi)
  all_goals (have hz := sz_le o)
  all_goals (try omega)
  all_goals (have h5 := hs.2.2.2.2.2)
  all_goals (rw [List.take_length, List.take_of_length_le (by omega)] at h5)
  all_goals (have h6 := sub_fin (Ml _) hs.2.2.1 hp.2.1.1 hs.2.2.2.1 (by rw [Vl]; exact hp.2.2) h5)
  all_goals (rw [Vl] at h6)
  all_goals (rw [← h6, Ts hs.2.2.1])
theorem sound_138 : Sound Tryz.prog 138 .body (norm s138) := by
  refine sb Tryz.func138 rfl (by kernel_rfl) G138_ok (by kernel_rfl) fun ds p r hs hp => ?_
  unfold s138 at hs
  split at hs
  · cases hs; exact ⟨Nat.le_of_ble_eq_true (by kernel_rfl), wk138 _ _ hp⟩
  · cases hs
noncomputable def s216 : Cs := fun ds => match ds with
  | [.v (.int .i64 d), .v (.bool s), .v (.bool o), .v (.int .i64 h)] => some (True, .one (.v (.bool (upS d s o h))))
  | _ => none
theorem s216_eq (d : Int) (s : Bool) (o : Bool) (h : Int) : norm s216 [.v (.int .i64 d), .v (.bool s), .v (.bool o), .v (.int .i64 h)] = s216 [.v (.int .i64 d), .v (.bool s), .v (.bool o), .v (.int .i64 h)] := rfl
noncomputable def G216 : Gam := []
theorem G216_ok : Gk Tryz.prog G216 := Gn
theorem wk216 (d : Int) (s : Bool) (o : Bool) (h : Int) (hp : True) : awp ty G216 (code Tryz.f216) (retP ty Tryz.f216.results.toList (.one (.v (.bool (upS d s o h))))) (entry 0 [.v (.int .i64 d), .v (.bool s), .v (.bool o), .v (.int .i64 h)]) [] := by
  unfold code
  simp only [Tryz.f216, Option.getD_some]
  all_goals repeat' (first
 | ((with_reducible first | (refine ZA ?_; intro X hX) | (show awp _ _ _ _ (Kp _ _) _) | refine ZD ?_ | refine ZE ?_ | refine ZF ?_ | ((show Bg _ _ _ _ _); simp only [hall]) | (refine ZR ?_ ?_ <;> intro hb <;> (try simp only [hb]) <;> have hq := hb <;> try simp only [HQ] at hq)) <;> try simp only [Go.AM.SS, Nat.reduceAdd, Nat.reduceMul, Nat.reduceSub, ↓reduceIte, Nat.reduceEqDiff, Nat.reduceLT, Nat.reduceLeDiff, reduceCtorEq, Int.reduceBEq, Int.reduceBNe, Nat.reduceBEq, Int.reduceEq, Int.reduceToNat, Int.reduceLE, Int.reduceLT, Nat.reduceDiv, Int.reduceAdd, Int.reduceSub, Int.reduceMul, Int.reduceNeg, Int.reduceGT, Int.reduceGE, Nat.reduceMod, ty_3, ty_4])
 | with_reducible first
 | (refine hX _ _ ?_; clear hX X)
 | (refine ZG ?_; try clear hall all)
 | (refine hK _ _ ?_; clear hK K)
 | refine ZL ?_
 | (refine v_0 _ _ ?_; try clear v_0 V_0)
 | (refine v_1 _ _ ?_; try clear v_1 V_1)
 | ((first | refine qr 10 [8] ?_ | refine Zh (a := .seq (.region 1 _ _) _) [] ?_ | refine qr 0 [0,1,2,3] ?_); intro V_0 v_0)
 | ((first | refine qr 3 [8] ?_ | refine qr 5 [8] ?_ | refine qr 7 [8] ?_ | refine qr 9 [8] ?_ | refine qr 8 [1,29] ?_ | refine qr 6 [1,9,25] ?_ | refine qr 4 [1,3,9,21] ?_ | refine qr 2 [1,2,3,9,10] ?_ | refine qr 1 [1,2,3,9] ?_); intro V_1 v_1)
 | (refine ZM ?_; intro K hK)
 | (refine ZN ?_; intro all hall K hK)
 | (refine ZQ ?_ ?_)
 | (refine Zg ?_; simp only [↓reduceIte, Nat.reduceEqDiff])
 | refine ZS ?_ | refine ZT ?_ | refine ZU ?_ | refine ZV ?_ | refine ZW ?_ | refine ZX ?_ | refine Ze ?_ | refine Zf ?_)
  all_goals try clear v_1 V_1
  all_goals try clear v_0 V_0
  all_goals (unfold upS)
  all_goals (refine congrArg _ ?_; repeat' split)
  all_goals first
    | (exfalso; omega)
    | rfl
    | (have hh : h = 0 := by omega
       simp [hh])
    | (have hh : ¬ h = 0 := by omega
       have h2 : ¬ h > 0 := by omega
       simp [hh, h2])
    | (have h2 : h > 0 := by omega
       simp [h2])
theorem sound_216 : Sound Tryz.prog 216 .body (norm s216) := by
  refine sb Tryz.func216 rfl (by kernel_rfl) G216_ok (by kernel_rfl) fun ds p r hs hp => ?_
  unfold s216 at hs
  split at hs
  · cases hs; exact ⟨Nat.le_of_ble_eq_true (by kernel_rfl), wk216 _ _ _ _ hp⟩
  · cases hs
end Go.Proofs.AMT
