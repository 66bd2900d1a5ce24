/- Part of the proof: own text. -/
import Derived.Test.YthdbkmpkebdliaaGreatDoorKA6
set_option linter.all false
set_option maxHeartbeats 20000000
set_option maxRecDepth 20000
namespace Go.Proofs.AMT
open Go.AM Go.AM.LN
attribute [local congr] bindO_congr bindS_congr bindG_congr awpOps_congr aOne_congr awp_congr aCond_congr awpD_congr dOne_congr keysB_congr nOne_congr thenP_congr blockP_congr Chk_congr Brk_congr
noncomputable def s231 : Cs := fun ds => match ds with
  | [.sl .u64 a, .v (.int .i64 n)] => some ((lim a ∧ a.length ≤ 90000000) ∧ 0 ≤ n ∧ n ≤ 63, .many [.fresh .u64 (limbs (val a * 2 ^ n.toNat)), .v (.bool true)])
  | _ => none
theorem s231_eq (a : List Int) (n : Int) : norm s231 [.sl .u64 a, .v (.int .i64 n)] = s231 [.sl .u64 a, .v (.int .i64 n)] := rfl
theorem s231_nil1  (n : Int) : norm s231 [.v (.slice none 0 0), .v (.int .i64 n)] = s231 [.sl .u64 [], .v (.int .i64 n)] := rfl
noncomputable def G231 : Gam := [(193, .body, norm s193)]
theorem G231_ok : Gk Tryz.prog G231 := Gc sound_193 Gn
theorem k231_193 : lk G231 193 = some (.body, norm s193) := rfl
theorem wk231 (a : List Int) (n : Int) (hp : (lim a ∧ a.length ≤ 90000000) ∧ 0 ≤ n ∧ n ≤ 63) : awp ty G231 (code Tryz.f231) (retP ty Tryz.f231.results.toList (.many [.fresh .u64 (limbs (val a * 2 ^ n.toNat)), .v (.bool true)])) (entry 0 [.sl .u64 a, .v (.int .i64 n)]) [] := by
  unfold code
  simp only [Tryz.f231, Option.getD_some]
  obtain ⟨t, rfl⟩ := Int.eq_ofNat_of_zero_le hp.2.1
  have m1 : min t 64 = t := by omega
  have m2 : (64 - (t : Int)).toNat = 64 - t := by omega
  have m3 : min (64 - t) 64 = 64 - t := by omega
  rcases Nat.eq_zero_or_pos t with ht0 | ht0
  all_goals first
    | (have g5 : decide ((t : Int) > 0) = true := by simp only [decide_eq_true_eq]; omega)
    | (have g5 : decide ((t : Int) > 0) = false := by simp only [decide_eq_false_iff_not]; omega)
  all_goals repeat' (first
 | ((with_reducible first | (refine ZA ?_; intro X hX) | (refine ZB ?_; intro X hX) | (show awp _ _ _ _ (Kp _ _) _) | (refine hX _ _ _ _ ?_; clear hX X) | (refine ZC ?_; intro X hX) | refine ZD ?_ | refine ZE ?_ | refine ZF ?_ | ((show Bg _ _ _ _ _); simp only [hall]) | (refine ZR ?_ ?_ <;> intro hb <;> (try simp only [hb]) <;> have hq := hb <;> try simp only [HQ] at hq)) <;> try simp only [Go.AM.SS, Nat.reduceAdd, Nat.reduceMul, Nat.reduceSub, ↓reduceIte, Nat.reduceEqDiff, Nat.reduceLT, Nat.reduceLeDiff, reduceCtorEq, Int.reduceBEq, Int.reduceBNe, Nat.reduceBEq, Int.reduceEq, Int.reduceToNat, Int.reduceLE, Int.reduceLT, Nat.reduceDiv, Int.reduceAdd, Int.reduceSub, Int.reduceMul, Int.reduceNeg, Int.reduceGT, Int.reduceGE, Nat.reduceMod, k231_193, s193.eq_1, s193_eq, s193_nil1, ty_3, ty_22, ty_50, List.length_replicate, IntKind.bits, m1, m2, m3, g5])
 | with_reducible first
 | (refine hX _ _ ?_; clear hX X)
 | (refine ZI ?_; try clear hall all)
 | (refine ZJ ?_; kernel_rfl)
 | ((show clashK _ _ _ = true); kernel_rfl)
 | (refine ZG ?_; try clear hall all)
 | (refine ZH ?_; try clear hall all)
 | (refine hK _ _ ?_; clear hK K)
 | refine ZL ?_
 | (refine v_0 _ _ ?_; try clear v_0 V_0)
 | (refine v_1 _ _ ?_; try clear v_1 V_1)
 | (refine v_2 _ _ ?_; try clear v_2 V_2)
    | (with_reducible refine awp_lp (σ := Nat × List Int) (fun s => s.1 ≤ a.length ∧ lim s.2 ∧ s.2.length = a.length + 1 ∧ val s.2 = val (a.take s.1) * 2 ^ t) (fun s => [(1, .v (.int .i64 t)), (6, .ow 192), (13, .rd .u64 a), (14, .v (.int .i64 a.length)), (15, .v (.int .i64 s.1))]) (fun s => [(192, .ints .u64 s.2, false)]) (fun s => a.length - s.1) (0, List.replicate (a.length + 1) 0) ?_ ?_ (fun s hs => ?_))
 | ((first | refine qr 9 [4,5] ?_ | refine Zh (a := .seq (.region 2 _ _) _) [6] ?_ | refine qr 1 [0,1,6] ?_ | refine qr 0 [0,1] ?_); intro V_0 v_0)
 | ((first | refine qb 1 [1,6,13,14,15] ?_ | refine Zh (a := .cond (.tmp 16) _ _) [1,6,13,14,15] ?_ | refine qr 3 [1,6,13,14,15,16] ?_ | refine qr 2 [1,6,13,14,15] ?_); intro V_1 v_1)
 | ((first | refine qr 6 [1,6,7,8,13,14,15,30] ?_ | refine qr 5 [1,6,7,8,13,14,15] ?_ | refine qr 4 [1,6,7,8,13,14,15] ?_); intro V_2 v_2)
 | (refine ZM ?_; intro K hK)
 | (refine ZN ?_; intro all hall K hK)
 | (refine Da (id := 5) ?_ ?_; kernel_rfl; intro all hall K hK)
 | (refine ZO ?_ ?_; kernel_rfl; intro all hall K hK)
 | (refine ZQ ?_ ?_)
 | (refine ZK ?_; kernel_rfl)
 | (refine Zg ?_; simp only [↓reduceIte, Nat.reduceEqDiff])
 | refine ZS ?_ | refine ZT ?_ | refine ZU ?_ | refine ZV ?_ | refine ZW ?_ | refine ZX ?_ | refine ZY ?_ | refine ZZ ?_ | refine Za ?_ | refine Ze ?_ | refine Zf ?_)
  all_goals try clear v_2 V_2
  all_goals try clear v_1 V_1
  all_goals try clear v_0 V_0
  all_goals clear m1 m2 m3 g5
  all_goals (try simp only [inR])
  all_goals (try (rcases s with ⟨i, o⟩))
  all_goals (try dsimp only at *)
  all_goals first
    | omega
    | exact ⟨Nat.zero_le _, lim_rep _, by simp, by simp [val_rep, val]⟩
    | (rw [show ((a.length : Int) + 1).toNat = a.length + 1 by omega]; exact Ent.refl _ _)
    | (have h1 := shift_lt hp.1.1 hs.2.2.2
       have h2 := low_word (V := 0) hs.2.1 h1 (show t ≤ 64 by omega)
       have h3 := Mg hs.2.1 (i := i)
       have h4 := Mg hp.1.1 (i := i)
       have h5 : o.getD (i + 1) 0 = 0 := getD_zero_of_lt hs.2.1 (Nat.lt_of_lt_of_le h1 (by rw [← Nat.pow_add]; exact Nat.pow_le_pow_right (by omega) (by omega)))
       rw [or_low ⟨h3.1, h2⟩ h4 (by omega)]
       rw [castShr2 h4.1]
       have h6 : (o.getD i 0).toNat + (a.getD i 0).toNat * 2 ^ t % 18446744073709551616 < 18446744073709551616 := low_sum (by omega) h2
       have h7 : (a.getD i 0).toNat / 2 ^ (64 - t) < 18446744073709551616 := Nat.lt_of_le_of_lt (Nat.div_le_self _ _) (by omega)
       have e : ((i : Int) + 1).toNat = i + 1 := by omega
       rw [e]
       exact ⟨(i + 1, (o.set i (((o.getD i 0).toNat + (a.getD i 0).toNat * 2 ^ t % 18446744073709551616 : Nat) : Int)).set (i + 1) (((a.getD i 0).toNat / 2 ^ (64 - t) : Nat) : Int)), (by (refine Eo [(192, 192)] rfl ?_ ?_ <;> simp only [Me, Sl, AvLe, lk, ↓reduceIte, Nat.reduceEqDiff, Option.isSome_some, and_self, and_true, true_and, reduceCtorEq, List.map_nil, List.map_cons, Option.some.injEq, AV.v.injEq, Value.int.injEq, Value.bool.injEq, AV.rd.injEq, AV.ow.injEq, AV.al.injEq, AV.ref.injEq] <;> omega)), ⟨by dsimp only; omega, lim_set (lim_set hs.2.1 (nat_lim h6) _) (nat_lim h7) _, by simp [hs.2.2.1], shift_step hp.1.1 (by omega) (by omega) hs.2.2.2 rfl h5⟩, by dsimp only; omega⟩)
    | (have h1 := shift_lt hp.1.1 hs.2.2.2
       have h2 := low_word (V := 0) hs.2.1 h1 (show t ≤ 64 by omega)
       have h3 := Mg hs.2.1 (i := i)
       have h4 := Mg hp.1.1 (i := i)
       have h5 : o.getD i 0 = 0 := by
         rw [ht0, Nat.pow_zero] at h2
         omega
       rw [or_low ⟨h3.1, h2⟩ h4 (by omega), h5]
       have h6 : (0 : Int).toNat + (a.getD i 0).toNat * 2 ^ t % 18446744073709551616 < 18446744073709551616 := low_sum (by omega) (by rw [ht0]; decide)
       refine ⟨(i + 1, o.set i (((0 : Int).toNat + (a.getD i 0).toNat * 2 ^ t % 18446744073709551616 : Nat) : Int)), (by (refine Eo [(192, 192)] rfl ?_ ?_ <;> simp only [Me, Sl, AvLe, lk, ↓reduceIte, Nat.reduceEqDiff, Option.isSome_some, and_self, and_true, true_and, reduceCtorEq, List.map_nil, List.map_cons, Option.some.injEq, AV.v.injEq, Value.int.injEq, Value.bool.injEq, AV.rd.injEq, AV.ow.injEq, AV.al.injEq, AV.ref.injEq] <;> omega)), ⟨by dsimp only; omega, lim_set hs.2.1 (nat_lim h6) _, by simp [hs.2.2.1], ?_⟩, by dsimp only; omega⟩
       simp only [Int.toNat_zero, Nat.zero_add]
       exact shift_step0 hp.1.1 ht0 (by omega) hs.2.2.2 h5)
    | (have h6 := sz_le o
       omega)
    | (have hi : i = a.length := by omega
       rw [Ts hs.2.1, hs.2.2.2, hi, List.take_length])
    | skip
theorem sound_231 : Sound Tryz.prog 231 .body (norm s231) := by
  refine sb Tryz.func231 rfl (by kernel_rfl) G231_ok (by kernel_rfl) fun ds p r hs hp => ?_
  unfold s231 at hs
  split at hs
  · cases hs; exact ⟨Nat.le_of_ble_eq_true (by kernel_rfl), wk231 _ _ hp⟩
  · cases hs
end Go.Proofs.AMT
