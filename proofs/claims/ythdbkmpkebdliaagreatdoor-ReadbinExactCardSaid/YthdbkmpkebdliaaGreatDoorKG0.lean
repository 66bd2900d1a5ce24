/- Part of the proof: own text. -/
import Derived.Test.YthdbkmpkebdliaaGreatDoorKE0
import Derived.Test.YthdbkmpkebdliaaGreatDoorKB0
set_option linter.all false
set_option maxHeartbeats 20000000
set_option maxRecDepth 20000
namespace Go.Proofs.AMT
open Go.AM Go.AM.LN
attribute [local congr] bindO_congr bindS_congr bindG_congr awpOps_congr aOne_congr awp_congr aCond_congr awpD_congr dOne_congr keysB_congr nOne_congr thenP_congr blockP_congr Chk_congr Brk_congr
noncomputable def s123 : Cs := fun ds => match ds with
  | [.v (.int .i64 n), .v (.agg ⟨[.int .u64 b0, .int .u64 b1, .int .u64 b2, .int .u64 b3]⟩)] => some ((1 ≤ n ∧ n ≤ 12) ∧ (0 ≤ b0 ∧ b0 < 18446744073709551616) ∧ (0 ≤ b1 ∧ b1 < 18446744073709551616) ∧ (0 ≤ b2 ∧ b2 < 18446744073709551616) ∧ (0 ≤ b3 ∧ b3 < 18446744073709551616), .one (.v (.bool (decide ((blen (V4 b0 b1 b2 b3) : Int) ≤ fw n)))))
  | _ => none
theorem s123_eq (n : Int) (b0 b1 b2 b3 : Int) : norm s123 [.v (.int .i64 n), .v (.agg #[.int .u64 b0, .int .u64 b1, .int .u64 b2, .int .u64 b3])] = s123 [.v (.int .i64 n), .v (.agg #[.int .u64 b0, .int .u64 b1, .int .u64 b2, .int .u64 b3])] := rfl
noncomputable def G123 : Gam := [(46, .body, norm s46), (47, .body, norm s47)]
theorem G123_ok : Gk Tryz.prog G123 := Gc sound_46 (Gc sound_47 Gn)
theorem k123_46 : lk G123 46 = some (.body, norm s46) := rfl
theorem k123_47 : lk G123 47 = some (.body, norm s47) := rfl
theorem wk123 (n : Int) (b0 b1 b2 b3 : Int) (hp : (1 ≤ n ∧ n ≤ 12) ∧ (0 ≤ b0 ∧ b0 < 18446744073709551616) ∧ (0 ≤ b1 ∧ b1 < 18446744073709551616) ∧ (0 ≤ b2 ∧ b2 < 18446744073709551616) ∧ (0 ≤ b3 ∧ b3 < 18446744073709551616)) : awp ty G123 (code Tryz.f123) (retP ty Tryz.f123.results.toList (.one (.v (.bool (decide ((blen (V4 b0 b1 b2 b3) : Int) ≤ fw n)))))) (entry 0 [.v (.int .i64 n), .v (.agg #[.int .u64 b0, .int .u64 b1, .int .u64 b2, .int .u64 b3])]) [] := by
  unfold code
  simp only [Tryz.f123, Option.getD_some]
  have hI := infoV_in hp.1
  have hE := errV_in hp.1
  have hV : val [b0, b1, b2, b3] = (V4 b0 b1 b2 b3) := rfl
  have l4 := lim4 hp.2.1 hp.2.2.1 hp.2.2.2.1 hp.2.2.2.2
  all_goals repeat' (first
 | ((with_reducible first | (refine ZA ?_; intro X hX) | (refine ZB ?_; intro X hX) | (show awp _ _ _ _ (Kp _ _) _) | refine ZD ?_ | refine ZE ?_ | refine ZF ?_ | ((show Bg _ _ _ _ _); simp only [hall]) | (refine ZR ?_ ?_ <;> intro hb <;> (try simp only [hb]) <;> have hq := hb <;> try simp only [HQ] at hq)) <;> try simp only [Go.AM.SS, Nat.reduceAdd, Nat.reduceMul, Nat.reduceSub, ↓reduceIte, Nat.reduceEqDiff, Nat.reduceLT, Nat.reduceLeDiff, reduceCtorEq, Int.reduceBEq, Int.reduceBNe, Nat.reduceBEq, Int.reduceEq, Int.reduceToNat, Int.reduceLE, Int.reduceLT, Nat.reduceDiv, Int.reduceAdd, Int.reduceSub, Int.reduceMul, Int.reduceNeg, Int.reduceGT, Int.reduceGE, Nat.reduceMod, k123_46, s46.eq_1, s46_eq, k123_47, s47.eq_1, s47_eq, s47_nil1, ty_3, ty_4, ty_9, ty_22, ty_24, ty_26, ty_50, ty_62, hI, hE, infoT, hV, toInts])
 | with_reducible first
 | (refine hX _ _ ?_; clear hX X)
 | (refine ZG ?_; try clear hall all)
 | (refine ZH ?_; try clear hall all)
 | (refine hK _ _ ?_; clear hK K)
 | refine ZL ?_
 | (refine v_0 _ _ ?_; try clear v_0 V_0)
 | ((first | refine qr 2 [4] ?_ | refine qr 1 [3,5,6] ?_ | refine qr 0 [0,3] ?_); intro V_0 v_0)
 | (refine ZM ?_; intro K hK)
 | (refine ZN ?_; intro all hall K hK)
 | (refine ZO ?_ ?_; kernel_rfl; intro all hall K hK)
 | (refine ZQ ?_ ?_)
 | (refine ZK ?_; kernel_rfl)
 | refine ZT ?_ | refine ZU ?_ | refine ZW ?_)
  all_goals try clear v_0 V_0
  all_goals (try simp only [inR])
  all_goals first
    | omega
    | exact l4
    | exact ⟨l4, Nat.le_of_ble_eq_true rfl⟩
    | skip
theorem sound_123 : Sound Tryz.prog 123 .body (norm s123) := by
  refine sb Tryz.func123 rfl (by kernel_rfl) G123_ok (by kernel_rfl) fun ds p r hs hp => ?_
  unfold s123 at hs
  split at hs
  · cases hs; exact ⟨Nat.le_of_ble_eq_true (by kernel_rfl), wk123 _ _ _ _ _ hp⟩
  · cases hs
noncomputable def s55 : Cs := fun ds => match ds with
  | [.v (.int .i64 n), .v (.agg ⟨[.int .u64 b0, .int .u64 b1, .int .u64 b2, .int .u64 b3]⟩)] => some ((0 ≤ b0 ∧ b0 < 18446744073709551616) ∧ (0 ≤ b1 ∧ b1 < 18446744073709551616) ∧ (0 ≤ b2 ∧ b2 < 18446744073709551616) ∧ (0 ≤ b3 ∧ b3 < 18446744073709551616), .one (.v (.bool (okB n (V4 b0 b1 b2 b3)))))
  | _ => none
theorem s55_eq (n : Int) (b0 b1 b2 b3 : Int) : norm s55 [.v (.int .i64 n), .v (.agg #[.int .u64 b0, .int .u64 b1, .int .u64 b2, .int .u64 b3])] = s55 [.v (.int .i64 n), .v (.agg #[.int .u64 b0, .int .u64 b1, .int .u64 b2, .int .u64 b3])] := rfl
noncomputable def G55 : Gam := [(44, .body, norm s44), (123, .body, norm s123)]
theorem G55_ok : Gk Tryz.prog G55 := Gc sound_44 (Gc sound_123 Gn)
theorem k55_44 : lk G55 44 = some (.body, norm s44) := rfl
theorem k55_123 : lk G55 123 = some (.body, norm s123) := rfl
theorem wk55 (n : Int) (b0 b1 b2 b3 : Int) (hp : (0 ≤ b0 ∧ b0 < 18446744073709551616) ∧ (0 ≤ b1 ∧ b1 < 18446744073709551616) ∧ (0 ≤ b2 ∧ b2 < 18446744073709551616) ∧ (0 ≤ b3 ∧ b3 < 18446744073709551616)) : awp ty G55 (code Tryz.f55) (retP ty Tryz.f55.results.toList (.one (.v (.bool (okB n (V4 b0 b1 b2 b3)))))) (entry 0 [.v (.int .i64 n), .v (.agg #[.int .u64 b0, .int .u64 b1, .int .u64 b2, .int .u64 b3])]) [] := by
  unfold code
  simp only [Tryz.f55, Option.getD_some]
  have hb := hp
  have hk : okB n (V4 b0 b1 b2 b3) = (decide (1 ≤ n ∧ n ≤ 6) && decide ((blen (V4 b0 b1 b2 b3) : Int) ≤ fw n)) := rfl
  have hcase : (1 ≤ n ∧ n ≤ 6) ∨ ¬ (1 ≤ n ∧ n ≤ 6) := by omega
  rcases hcase with hn | hn
  all_goals first
    | (have gk : (decide (n ≥ 1) && decide (n ≤ 6)) = true := by rw [decide_eq_true (by omega : n ≥ 1), decide_eq_true (by omega : n ≤ 6)]; rfl)
    | (have gk : (decide (n ≥ 1) && decide (n ≤ 6)) = false := by
         rw [Bool.and_eq_false_iff, decide_eq_false_iff_not, decide_eq_false_iff_not]; omega)
  all_goals first
    | (rw [decide_eq_true hn, Bool.true_and] at hk)
    | (rw [decide_eq_false hn, Bool.false_and] at hk)
  all_goals repeat' (first
 | ((with_reducible first | (refine ZA ?_; intro X hX) | (show awp _ _ _ _ (Kp _ _) _) | refine ZD ?_ | refine ZE ?_ | refine ZF ?_ | ((show Bg _ _ _ _ _); simp only [hall]) | (refine ZR ?_ ?_ <;> intro hb <;> (try simp only [hb]) <;> have hq := hb <;> try simp only [HQ] at hq)) <;> try simp only [Go.AM.SS, Nat.reduceAdd, Nat.reduceMul, Nat.reduceSub, ↓reduceIte, Nat.reduceEqDiff, Nat.reduceLT, Nat.reduceLeDiff, reduceCtorEq, Int.reduceBEq, Int.reduceBNe, Nat.reduceBEq, Int.reduceEq, Int.reduceToNat, Int.reduceLE, Int.reduceLT, Nat.reduceDiv, Int.reduceAdd, Int.reduceSub, Int.reduceMul, Int.reduceNeg, Int.reduceGT, Int.reduceGE, Nat.reduceMod, k55_44, s44.eq_1, s44_eq, k55_123, s123.eq_1, s123_eq, ty_3, ty_22, ty_24, gk, hk])
 | with_reducible first
 | (refine hX _ _ ?_; clear hX X)
 | (refine ZG ?_; try clear hall all)
 | (refine hK _ _ ?_; clear hK K)
 | refine ZL ?_
 | (refine v_0 _ _ ?_; try clear v_0 V_0)
 | ((first | refine qr 1 [4] ?_ | refine qr 0 [0,3] ?_); intro V_0 v_0)
 | (refine ZM ?_; intro K hK)
 | (refine ZN ?_; intro all hall K hK)
 | (refine ZQ ?_ ?_)
 | refine ZT ?_ | refine ZU ?_ | refine ZW ?_)
  all_goals try clear v_0 V_0
  all_goals (try simp only [inR])
  all_goals first
    | omega
    | exact ⟨by omega, hb⟩
    | skip
theorem sound_55 : Sound Tryz.prog 55 .body (norm s55) := by
  refine sb Tryz.func55 rfl (by kernel_rfl) G55_ok (by kernel_rfl) fun ds p r hs hp => ?_
  unfold s55 at hs
  split at hs
  · cases hs; exact ⟨Nat.le_of_ble_eq_true (by kernel_rfl), wk55 _ _ _ _ _ hp⟩
  · cases hs
noncomputable def s84 : Cs := fun ds => match ds with
  | [.sl .u64 a] => some ((lim a ∧ limbs (val a) = a ∧ a.length ≤ 1000) ∧ val a < 9223372036854775808, .one (.v (.int .i64 (val a))))
  | _ => none
theorem s84_eq (a : List Int) : norm s84 [.sl .u64 a] = s84 [.sl .u64 a] := rfl
theorem s84_nil1  : norm s84 [.v (.slice none 0 0)] = s84 [.sl .u64 []] := rfl
noncomputable def G84 : Gam := []
theorem G84_ok : Gk Tryz.prog G84 := Gn
theorem wk84 (a : List Int) (hp : (lim a ∧ limbs (val a) = a ∧ a.length ≤ 1000) ∧ val a < 9223372036854775808) : awp ty G84 (code Tryz.f84) (retP ty Tryz.f84.results.toList (.one (.v (.int .i64 (val a))))) (entry 0 [.sl .u64 a]) [] := by
  unfold code
  simp only [Tryz.f84, Option.getD_some]
  have hz := @len_zero (val a)
  have hg := Mg hp.1.1 (i := 0)
  have h0 := limbs_getD0 (val a)
  rw [hp.1.2.1] at h0
  have hl := congrArg List.length hp.1.2.1
  all_goals repeat' (first
 | ((with_reducible first | (refine ZA ?_; intro X hX) | (show awp _ _ _ _ (Kp _ _) _) | refine ZD ?_ | refine ZE ?_ | refine ZF ?_ | ((show Bg _ _ _ _ _); simp only [hall]) | (refine ZR ?_ ?_ <;> intro hb <;> (try simp only [hb]) <;> have hq := hb <;> try simp only [HQ] at hq)) <;> try simp only [Go.AM.SS, Nat.reduceAdd, Nat.reduceMul, Nat.reduceSub, ↓reduceIte, Nat.reduceEqDiff, Nat.reduceLT, Nat.reduceLeDiff, reduceCtorEq, Int.reduceBEq, Int.reduceBNe, Nat.reduceBEq, Int.reduceEq, Int.reduceToNat, Int.reduceLE, Int.reduceLT, Nat.reduceDiv, Int.reduceAdd, Int.reduceSub, Int.reduceMul, Int.reduceNeg, Int.reduceGT, Int.reduceGE, Nat.reduceMod, ty_3, ty_22, ty_50])
 | with_reducible first
 | (refine hX _ _ ?_; clear hX X)
 | (refine ZG ?_; try clear hall all)
 | (refine hK _ _ ?_; clear hK K)
 | refine ZL ?_
 | (refine v_0 _ _ ?_; try clear v_0 V_0)
 | (refine v_1 _ _ ?_; try clear v_1 V_1)
 | ((first | refine qr 3 [2] ?_ | refine Zh (a := .seq (.region 1 _ _) _) [0] ?_ | refine qr 0 [0] ?_); intro V_0 v_0)
 | ((first | refine qr 2 [2] ?_ | refine qr 1 [0,5] ?_); intro V_1 v_1)
 | (refine ZM ?_; intro K hK)
 | (refine ZN ?_; intro all hall K hK)
 | (refine ZQ ?_ ?_)
 | refine ZT ?_ | refine ZU ?_ | refine ZW ?_)
  all_goals try clear v_1 V_1
  all_goals try clear v_0 V_0
  all_goals (try simp only [inR])
  all_goals first
    | omega
    | (rw [show val a = 0 by omega]; rfl)
    | (rw [h0, show val a % 18446744073709551616 = val a by omega]; done)
    | skip
theorem sound_84 : Sound Tryz.prog 84 .body (norm s84) := by
  refine sb Tryz.func84 rfl (by kernel_rfl) G84_ok (by kernel_rfl) fun ds p r hs hp => ?_
  unfold s84 at hs
  split at hs
  · cases hs; exact ⟨Nat.le_of_ble_eq_true (by kernel_rfl), wk84 _ hp⟩
  · cases hs
noncomputable def s29 : Cs := fun ds => match ds with
  | [.v (.int .i64 n), .v (.agg ⟨[.int .u64 b0, .int .u64 b1, .int .u64 b2, .int .u64 b3]⟩)] => some ((0 ≤ b0 ∧ b0 < 18446744073709551616) ∧ (0 ≤ b1 ∧ b1 < 18446744073709551616) ∧ (0 ≤ b2 ∧ b2 < 18446744073709551616) ∧ (0 ≤ b3 ∧ b3 < 18446744073709551616), .many [.v (.agg #[.int .i64 (dC n (V4 b0 b1 b2 b3)), .bool (dS n (V4 b0 b1 b2 b3)), .bool (dQ n (V4 b0 b1 b2 b3)), .int .i64 (dX n (V4 b0 b1 b2 b3)), .int .u64 (w4 (dV n (V4 b0 b1 b2 b3)) 0), .int .u64 (w4 (dV n (V4 b0 b1 b2 b3)) 1), .int .u64 (w4 (dV n (V4 b0 b1 b2 b3)) 2), .int .u64 (w4 (dV n (V4 b0 b1 b2 b3)) 3)]), .v (.int .i64 (if okB n (V4 b0 b1 b2 b3) then 0 else 1))])
  | _ => none
theorem s29_eq (n : Int) (b0 b1 b2 b3 : Int) : norm s29 [.v (.int .i64 n), .v (.agg #[.int .u64 b0, .int .u64 b1, .int .u64 b2, .int .u64 b3])] = s29 [.v (.int .i64 n), .v (.agg #[.int .u64 b0, .int .u64 b1, .int .u64 b2, .int .u64 b3])] := rfl
noncomputable def G29 : Gam := [(41, .body, norm s41), (46, .body, norm s46), (48, .body, norm s48), (55, .body, norm s55), (60, .body, norm s60), (68, .body, norm s68), (84, .body, norm s84)]
theorem G29_ok : Gk Tryz.prog G29 := Gc sound_41 (Gc sound_46 (Gc sound_48 (Gc sound_55 (Gc sound_60 (Gc sound_68 (Gc sound_84 Gn))))))
theorem k29_41 : lk G29 41 = some (.body, norm s41) := rfl
theorem k29_46 : lk G29 46 = some (.body, norm s46) := rfl
theorem k29_48 : lk G29 48 = some (.body, norm s48) := rfl
theorem k29_55 : lk G29 55 = some (.body, norm s55) := rfl
theorem k29_60 : lk G29 60 = some (.body, norm s60) := rfl
theorem k29_68 : lk G29 68 = some (.body, norm s68) := rfl
theorem k29_84 : lk G29 84 = some (.body, norm s84) := rfl
theorem wk29 (n : Int) (b0 b1 b2 b3 : Int) (hp : (0 ≤ b0 ∧ b0 < 18446744073709551616) ∧ (0 ≤ b1 ∧ b1 < 18446744073709551616) ∧ (0 ≤ b2 ∧ b2 < 18446744073709551616) ∧ (0 ≤ b3 ∧ b3 < 18446744073709551616)) : awp ty G29 (code Tryz.f29) (retP ty Tryz.f29.results.toList (.many [.v (.agg #[.int .i64 (dC n (V4 b0 b1 b2 b3)), .bool (dS n (V4 b0 b1 b2 b3)), .bool (dQ n (V4 b0 b1 b2 b3)), .int .i64 (dX n (V4 b0 b1 b2 b3)), .int .u64 (w4 (dV n (V4 b0 b1 b2 b3)) 0), .int .u64 (w4 (dV n (V4 b0 b1 b2 b3)) 1), .int .u64 (w4 (dV n (V4 b0 b1 b2 b3)) 2), .int .u64 (w4 (dV n (V4 b0 b1 b2 b3)) 3)]), .v (.int .i64 (if okB n (V4 b0 b1 b2 b3) then 0 else 1))])) (entry 0 [.v (.int .i64 n), .v (.agg #[.int .u64 b0, .int .u64 b1, .int .u64 b2, .int .u64 b3])]) [] := by
  unfold code
  simp only [Tryz.f29, Option.getD_some]
  rcases Bool.eq_false_or_eq_true (okB n (V4 b0 b1 b2 b3)) with hO | hO
  case' inr =>
    have hI : decide ((4 : Int) ≥ 5) = false := rfl
    have hErr : decide ((4 : Int) ≥ 5) = false := rfl
    have hmin : decide ((4 : Int) ≥ 5) = false := rfl
    have hEE : decide ((4 : Int) ≥ 5) = false := rfl
    have hFF : decide ((4 : Int) ≥ 5) = false := rfl
    have eP : decide ((4 : Int) ≥ 5) = false := rfl
    have eW : decide ((4 : Int) ≥ 5) = false := rfl
    have g1 : decide ((4 : Int) ≥ 5) = false := rfl
    have g2 : decide ((4 : Int) ≥ 5) = false := rfl
    have g3 : decide ((4 : Int) ≥ 5) = false := rfl
    have gQ : decide ((4 : Int) ≥ 5) = false := rfl
    have gS : decide ((4 : Int) ≥ 5) = false := rfl
    have hPW : decide ((4 : Int) ≥ 5) = false := rfl
    rw [show dC n (V4 b0 b1 b2 b3) = 0 by simp [dC, hO], show dS n (V4 b0 b1 b2 b3) = false by simp [dS, hO], show dQ n (V4 b0 b1 b2 b3) = false by simp [dQ, hO], show dX n (V4 b0 b1 b2 b3) = 0 by simp [dX, hO], show dV n (V4 b0 b1 b2 b3) = 0 by simp [dV, hO]]
  case' inl =>
    obtain ⟨hn, hbl⟩ := okB_in hO
    obtain ⟨F1, F2, F3, F4, F5, F6, F7, F8, F9, F10, F11⟩ := bfmt hn
    have hI := infoV_in (n := n) (by omega)
    have hErr := errV_in (n := n) (by omega)
    have hmin : min (fx n % 18446744073709551616).toNat 64 = (fx n).toNat := by omega
    have eP : fp n - 1 - 1 = fp n - 2 := by omega
    have eW : fp n - 1 + fx n = fw n - 1 := by omega
    have hEl := uE_lt hn (V4 b0 b1 b2 b3)
    have hFl := uF_lt hn (V4 b0 b1 b2 b3)
    have hF2 : (V4 b0 b1 b2 b3) % 2 ^ (fp n - 1).toNat < 2 ^ (fp n - 1).toNat := Nat.mod_lt _ (Nat.pow_pos (by omega))
    have hE2 : (V4 b0 b1 b2 b3) / 2 ^ (fp n - 1).toNat % 2 ^ (fx n).toNat < 2 ^ (fx n).toNat := Nat.mod_lt _ (Nat.pow_pos (by omega))
    have hQ2 : (V4 b0 b1 b2 b3) % 2 ^ (fp n - 1).toNat % 2 ^ (fp n - 2).toNat = (V4 b0 b1 b2 b3) % 2 ^ (fp n - 2).toNat := Nat.mod_mod_of_dvd _ (Nat.pow_dvd_pow 2 (by omega))
    have hPl : 1 * 2 ^ (fp n - 1).toNat % 2 ^ 256 = 1 * 2 ^ (fp n - 1).toNat := Nat.mod_eq_of_lt (by rw [Nat.one_mul]; exact Nat.pow_lt_pow_right (by omega) (by omega))
    obtain ⟨E, hE⟩ : ∃ E, uE n (V4 b0 b1 b2 b3) = E := ⟨_, rfl⟩
    obtain ⟨Fr, hF⟩ : ∃ Fr, uF n (V4 b0 b1 b2 b3) = Fr := ⟨_, rfl⟩
    have hEE : (V4 b0 b1 b2 b3) / 2 ^ (fp n - 1).toNat % 2 ^ (fx n).toNat = E := hE
    have hFF : (V4 b0 b1 b2 b3) % 2 ^ (fp n - 1).toNat = Fr := hF
    rw [hE] at hEl
    rw [hF] at hFl
    rw [hFF] at hF2 hQ2
    rw [hEE] at hE2
    have hPW : ∀ k : Nat, (2 : Int).toNat ^ k = 2 ^ k := fun k => rfl
    have hE3 : (E : Int) < 2 ^ (fx n).toNat := by exact_mod_cast hE2
    have gS : ((((V4 b0 b1 b2 b3) / 2 ^ (fw n - 1).toNat % 2 : Nat) : Int) == 1) = uS n (V4 b0 b1 b2 b3) := by unfold uS; rw [Bool.eq_iff_iff]; simp only [beq_iff_eq]; omega
    have gQ : ((((V4 b0 b1 b2 b3) / 2 ^ (fp n - 2).toNat % 2 : Nat) : Int) == 0) = ((V4 b0 b1 b2 b3) / 2 ^ (fp n - 2).toNat % 2 == 0) := by rw [Bool.eq_iff_iff]; simp only [beq_iff_eq]; omega
    have hxp : (2 : Int) ^ (fx n).toNat ≤ 32768 := by omega
    have hx1 : (1 : Int) ≤ 2 ^ (fx n).toNat := by exact_mod_cast Nat.one_le_two_pow
    have gz := len_zero (x := Fr)
    rw [show dC n (V4 b0 b1 b2 b3) = uC n (V4 b0 b1 b2 b3) by simp [dC, hO], show dS n (V4 b0 b1 b2 b3) = uS n (V4 b0 b1 b2 b3) by simp [dS, hO], show dQ n (V4 b0 b1 b2 b3) = uQ n (V4 b0 b1 b2 b3) by simp [dQ, hO], show dX n (V4 b0 b1 b2 b3) = uX n (V4 b0 b1 b2 b3) by simp [dX, hO], show dV n (V4 b0 b1 b2 b3) = uV n (V4 b0 b1 b2 b3) by simp [dV, hO]]
    have hcase : ((E : Int) < 2 ^ (fx n).toNat - 1 ∧ E = 0) ∨ ((E : Int) < 2 ^ (fx n).toNat - 1 ∧ E ≠ 0) ∨ (¬ (E : Int) < 2 ^ (fx n).toNat - 1 ∧ Fr = 0) ∨ (¬ (E : Int) < 2 ^ (fx n).toNat - 1 ∧ Fr ≠ 0) := by omega
    rcases hcase with ⟨h1, h2⟩ | ⟨h1, h2⟩ | ⟨h1, h2⟩ | ⟨h1, h2⟩
    all_goals first
      | (have g1 : ((E : Int) == 2 ^ (fx n).toNat - 1) = true := by rw [beq_iff_eq]; omega)
      | (have g1 : ((E : Int) == 2 ^ (fx n).toNat - 1) = false := by rw [beq_eq_false_iff_ne]; omega)
    all_goals first
      | (have g2 : ((E : Int) == 0) = true := by rw [beq_iff_eq]; omega)
      | (have g2 : ((E : Int) == 0) = false := by rw [beq_eq_false_iff_ne]; omega)
    all_goals first
      | (have g3 : (((limbs Fr).length : Int) == 0) = true := by rw [beq_iff_eq]; omega)
      | (have g3 : (((limbs Fr).length : Int) == 0) = false := by rw [beq_eq_false_iff_ne]; omega)
      | (have g3 : decide ((4 : Int) ≥ 5) = false := rfl)
  all_goals repeat' (first
 | ((with_reducible first | (refine ZA ?_; intro X hX) | (refine ZB ?_; intro X hX) | (show awp _ _ _ _ (Kp _ _) _) | (refine hX _ _ _ _ ?_; clear hX X) | (refine ZC ?_; intro X hX) | refine ZD ?_ | refine ZE ?_ | refine ZF ?_ | ((show Bg _ _ _ _ _); simp only [hall]) | (refine ZR ?_ ?_ <;> intro hb <;> (try simp only [hb]) <;> have hq := hb <;> try simp only [HQ] at hq)) <;> try simp only [Go.AM.SS, Nat.reduceAdd, Nat.reduceMul, Nat.reduceSub, ↓reduceIte, Nat.reduceEqDiff, Nat.reduceLT, Nat.reduceLeDiff, reduceCtorEq, Int.reduceBEq, Int.reduceBNe, Nat.reduceBEq, Int.reduceEq, Int.reduceToNat, Int.reduceLE, Int.reduceLT, Nat.reduceDiv, Int.reduceAdd, Int.reduceSub, Int.reduceMul, Int.reduceNeg, Int.reduceGT, Int.reduceGE, Nat.reduceMod, k29_41, s41.eq_1, s41_eq, k29_46, s46.eq_1, s46_eq, k29_48, s48.eq_1, s48_eq, s48_nil1, k29_55, s55.eq_1, s55_eq, k29_60, s60.eq_1, s60_eq, s60_nil1, s60_nil2, s60_nil3, k29_68, s68.eq_1, s68_eq, k29_84, s84.eq_1, s84_eq, s84_nil1, ty_3, ty_4, ty_9, ty_22, ty_24, ty_33, ty_50, ty_62, ty_75, hI, hErr, infoT, hO, hmin, IntKind.bits, Nat.pow_zero, Nat.div_one, Int.one_mul, Int.toNat_zero, Int.toNat_one, Int.reduceToNat, Nat.pow_one, Vl, limbs_getD, hEE, hFF, eP, eW, g1, g2, g3, gQ, gS, hPW, toInts])
 | with_reducible first
 | (refine hX _ _ ?_; clear hX X)
 | (refine ZI ?_; try clear hall all)
 | (refine ZJ ?_; kernel_rfl)
 | ((show clashK _ _ _ = true); kernel_rfl)
 | (refine ZG ?_; try clear hall all)
 | (refine ZH ?_; try clear hall all)
 | (refine hK _ _ ?_; clear hK K)
 | refine ZL ?_
 | (refine v_0 _ _ ?_; try clear v_0 V_0)
 | (refine v_1 _ _ ?_; try clear v_1 V_1)
 | ((first | refine qr 16 [4,5] ?_ | refine qb 0 [4,11] ?_ | refine qr 6 [3,4,6,8,9,10,11] ?_ | refine qr 5 [3,4,6,8,9,10] ?_ | refine qr 4 [3,4,6,8] ?_ | refine qr 3 [3,4,6] ?_ | refine Zh (a := .seq (.region 1 _ _) _) [0,3,4] ?_ | refine qr 0 [0,3,4] ?_); intro V_0 v_0)
 | ((first | refine qr 12 [3,4,8,11] ?_ | refine qr 11 [3,4,8,11] ?_ | refine qr 14 [4,6,8,9,10,11,91] ?_ | refine qr 10 [3,4,6,8,9,10,11,69] ?_ | refine qr 8 [3,4,6,8,9,10,11,55] ?_ | refine qr 2 [4,5] ?_ | refine qr 1 [0,3,4,15] ?_); intro V_1 v_1)
 | (refine ZM ?_; intro K hK)
 | (refine ZN ?_; intro all hall K hK)
 | (refine Da (id := 15) ?_ ?_; kernel_rfl; intro all hall K hK)
 | (refine Da (id := 7) ?_ ?_; kernel_rfl; intro all hall K hK)
 | (refine ZO ?_ ?_; kernel_rfl; intro all hall K hK)
 | (refine ZQ ?_ ?_)
 | (refine ZK ?_; kernel_rfl)
 | (refine Zg ?_; simp only [↓reduceIte, Nat.reduceEqDiff])
 | refine ZS ?_ | refine ZT ?_ | refine ZU ?_ | refine ZV ?_ | refine ZW ?_ | refine ZX ?_ | refine Ze ?_ | refine Zf ?_)
  all_goals try clear v_1 V_1
  all_goals try clear v_0 V_0
  all_goals (try clear hmin)
  all_goals (try simp only [inR])
  all_goals first
    | omega
    | exact hp
    | exact num_ok (by omega)
    | exact ⟨⟨Ml _, Nat.le_trans (len4 hFl) (by omega)⟩, Ml _, Nat.le_trans (len4 (Nat.pow_lt_pow_right (by omega) (by omega))) (by omega)⟩
    | (simp only [w4_zero]; done)
    | exact num_ok (Nat.lt_of_lt_of_le (Nat.mod_lt _ (by decide)) (by decide))
    | (obtain ⟨e1, e2, e3, e4⟩ := u_num (n := n) (V := (V4 b0 b1 b2 b3)) (by rw [hE]; exact h1)
       rw [e1, e2, e3, e4, hE, hF]
       first
         | (rw [if_pos h2, show 2 - fe n - fp n + max ((E : Int) - 1) 0 = 2 - fe n - fp n by omega]; done)
         | (rw [if_neg h2, hPl, or_add hF2, Nat.one_mul, show 2 - fe n - fp n + max ((E : Int) - 1) 0 = 2 - fe n - fp n - 1 + (E : Int) by omega]; done))
    | (have hh : uF n (V4 b0 b1 b2 b3) = 0 := hF.trans h2
       obtain ⟨e1, e2, e3, e4⟩ := u_inf (n := n) (V := (V4 b0 b1 b2 b3)) (by rw [hE]; exact h1) hh
       rw [e1, e2, e3, e4]
       simp only [w4_zero])
    | (have hh : uF n (V4 b0 b1 b2 b3) ≠ 0 := fun hz => h2 (hF.symm.trans hz)
       obtain ⟨e1, e2, e3, e4⟩ := u_nan (n := n) (V := (V4 b0 b1 b2 b3)) (by rw [hE]; exact h1) hh
       rw [e1, e2, e3, e4, hF, hQ2])
    | skip
theorem sound_29 : Sound Tryz.prog 29 .body (norm s29) := by
  refine sb Tryz.func29 rfl (by kernel_rfl) G29_ok (by kernel_rfl) fun ds p r hs hp => ?_
  unfold s29 at hs
  split at hs
  · cases hs; exact ⟨Nat.le_of_ble_eq_true (by kernel_rfl), wk29 _ _ _ _ _ hp⟩
  · cases hs
end Go.Proofs.AMT
