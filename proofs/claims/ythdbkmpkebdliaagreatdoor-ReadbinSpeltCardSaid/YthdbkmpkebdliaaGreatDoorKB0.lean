/- Part of the proof: own text. -/
import Derived.Test.YthdbkmpkebdliaaGreatDoorKA14
set_option linter.all false
set_option maxHeartbeats 20000000
set_option maxRecDepth 20000
namespace Go.Proofs.AMT
open Go.AM Go.AM.LN
attribute [local congr] bindO_congr bindS_congr bindG_congr awpOps_congr aOne_congr awp_congr aCond_congr awpD_congr dOne_congr keysB_congr nOne_congr thenP_congr blockP_congr Chk_congr Brk_congr
noncomputable def s31 : Cs := fun ds => match ds with
  | [] => some (True, .one (.v (.bool true)))
  | _ => none
theorem s31_eq  : norm s31 [] = s31 [] := rfl
noncomputable def G31 : Gam := [(32, .body, norm s32)]
theorem G31_ok : Gk Tryz.prog G31 := Gc sound_32 Gn
theorem k31_32 : lk G31 32 = some (.body, norm s32) := rfl
theorem wk31  (hp : True) : awp ty G31 (code Tryz.f31) (retP ty Tryz.f31.results.toList (.one (.v (.bool true)))) (entry 0 []) [] := by
  unfold code
  simp only [Tryz.f31, Option.getD_some]
  obtain ⟨q1, q2, q3⟩ := read_awake
  obtain ⟨q4, q5, q6, q7⟩ := w4_awake
  all_goals repeat' (first
 | ((with_reducible first | (refine ZA ?_; intro X hX) | (show awp _ _ _ _ (Kp _ _) _) | refine ZD ?_ | refine ZE ?_ | refine ZF ?_ | ((show Bg _ _ _ _ _); simp only [hall]) | (refine ZR ?_ ?_ <;> intro hb <;> (try simp only [hb]) <;> have hq := hb <;> try simp only [HQ] at hq)) <;> try simp only [Go.AM.SS, Nat.reduceAdd, Nat.reduceMul, Nat.reduceSub, ↓reduceIte, Nat.reduceEqDiff, Nat.reduceLT, Nat.reduceLeDiff, reduceCtorEq, Int.reduceBEq, Int.reduceBNe, Nat.reduceBEq, Int.reduceEq, Int.reduceToNat, Int.reduceLE, Int.reduceLT, Nat.reduceDiv, Int.reduceAdd, Int.reduceSub, Int.reduceMul, Int.reduceNeg, Int.reduceGT, Int.reduceGE, Nat.reduceMod, k31_32, s32.eq_1, s32_eq, ty_3, ty_9, ty_22, ty_24, ty_26, q1, q2, q3, q4, q5, q6, q7, beq_self_eq_true, bs_lit, bs_app, Bz, bs_beq, Bi, Bd, Be, bt_bs, List.length_append, List.append_nil, List.nil_append, List.cons_append])
 | with_reducible first
 | (refine hX _ _ ?_; clear hX X)
 | (refine ZG ?_; try clear hall all)
 | (refine hK _ _ ?_; clear hK K)
 | refine ZL ?_
 | (refine v_0 _ _ ?_; try clear v_0 V_0)
 | ((first | refine qr 2 [0] ?_ | refine qr 1 [1,2,3] ?_ | refine qr 0 [] ?_); intro V_0 v_0)
 | (refine ZM ?_; intro K hK)
 | (refine ZN ?_; intro all hall K hK)
 | (refine ZQ ?_ ?_)
 | refine ZT ?_ | refine ZU ?_ | refine ZW ?_)
  all_goals try clear v_0 V_0
  all_goals (try simp only [inR])
  all_goals first
    | omega
    | skip
theorem sound_31 : Sound Tryz.prog 31 .body (norm s31) := by
  refine sb Tryz.func31 rfl (by kernel_rfl) G31_ok (by kernel_rfl) fun ds p r hs hp => ?_
  unfold s31 at hs
  split at hs
  · cases hs; exact ⟨Nat.le_of_ble_eq_true (by kernel_rfl), wk31  hp⟩
  · cases hs
noncomputable def s44 : Cs := fun ds => match ds with
  | [.v (.int .i64 n)] => some (True, .one (.v (.bool (decide (n ≥ 1) && decide (n ≤ 6)))))
  | _ => none
theorem s44_eq (n : Int) : norm s44 [.v (.int .i64 n)] = s44 [.v (.int .i64 n)] := rfl
noncomputable def G44 : Gam := []
theorem G44_ok : Gk Tryz.prog G44 := Gn
theorem wk44 (n : Int) (hp : True) : awp ty G44 (code Tryz.f44) (retP ty Tryz.f44.results.toList (.one (.v (.bool (decide (n ≥ 1) && decide (n ≤ 6)))))) (entry 0 [.v (.int .i64 n)]) [] := by
  unfold code
  simp only [Tryz.f44, Option.getD_some]
  all_goals repeat' (first
 | ((with_reducible first | (refine ZA ?_; intro X hX) | (show awp _ _ _ _ (Kp _ _) _) | refine ZD ?_ | refine ZE ?_ | refine ZF ?_ | ((show Bg _ _ _ _ _); simp only [hall]) | (refine ZR ?_ ?_ <;> intro hb <;> (try simp only [hb]) <;> have hq := hb <;> try simp only [HQ] at hq)) <;> try simp only [Go.AM.SS, Nat.reduceAdd, Nat.reduceMul, Nat.reduceSub, ↓reduceIte, Nat.reduceEqDiff, Nat.reduceLT, Nat.reduceLeDiff, reduceCtorEq, Int.reduceBEq, Int.reduceBNe, Nat.reduceBEq, Int.reduceEq, Int.reduceToNat, Int.reduceLE, Int.reduceLT, Nat.reduceDiv, Int.reduceAdd, Int.reduceSub, Int.reduceMul, Int.reduceNeg, Int.reduceGT, Int.reduceGE, Nat.reduceMod, ty_3])
 | with_reducible first
 | (refine hX _ _ ?_; clear hX X)
 | (refine ZG ?_; try clear hall all)
 | (refine hK _ _ ?_; clear hK K)
 | refine ZL ?_
 | (refine v_0 _ _ ?_; try clear v_0 V_0)
 | ((first | refine qr 1 [2] ?_ | refine qr 0 [0] ?_); intro V_0 v_0)
 | (refine ZM ?_; intro K hK)
 | (refine ZN ?_; intro all hall K hK)
 | (refine ZQ ?_ ?_)
 | refine ZT ?_ | refine ZU ?_ | refine ZW ?_)
  all_goals try clear v_0 V_0
  all_goals (first | rfl | (simp [hb]; done) | skip)
theorem sound_44 : Sound Tryz.prog 44 .body (norm s44) := by
  refine sb Tryz.func44 rfl (by kernel_rfl) G44_ok (by kernel_rfl) fun ds p r hs hp => ?_
  unfold s44 at hs
  split at hs
  · cases hs; exact ⟨Nat.le_of_ble_eq_true (by kernel_rfl), wk44 _ hp⟩
  · cases hs
noncomputable def s37 : Cs := fun ds => match ds with
  | [.v (.int .i64 d)] => some (True, .one (.v (.bool (decide (d ≥ 0) && decide (d ≤ 4)))))
  | _ => none
theorem s37_eq (d : Int) : norm s37 [.v (.int .i64 d)] = s37 [.v (.int .i64 d)] := rfl
noncomputable def G37 : Gam := []
theorem G37_ok : Gk Tryz.prog G37 := Gn
theorem wk37 (d : Int) (hp : True) : awp ty G37 (code Tryz.f37) (retP ty Tryz.f37.results.toList (.one (.v (.bool (decide (d ≥ 0) && decide (d ≤ 4)))))) (entry 0 [.v (.int .i64 d)]) [] := by
  unfold code
  simp only [Tryz.f37, Option.getD_some]
  all_goals repeat' (first
 | ((with_reducible first | (refine ZA ?_; intro X hX) | (show awp _ _ _ _ (Kp _ _) _) | refine ZD ?_ | refine ZE ?_ | refine ZF ?_ | ((show Bg _ _ _ _ _); simp only [hall]) | (refine ZR ?_ ?_ <;> intro hb <;> (try simp only [hb]) <;> have hq := hb <;> try simp only [HQ] at hq)) <;> try simp only [Go.AM.SS, Nat.reduceAdd, Nat.reduceMul, Nat.reduceSub, ↓reduceIte, Nat.reduceEqDiff, Nat.reduceLT, Nat.reduceLeDiff, reduceCtorEq, Int.reduceBEq, Int.reduceBNe, Nat.reduceBEq, Int.reduceEq, Int.reduceToNat, Int.reduceLE, Int.reduceLT, Nat.reduceDiv, Int.reduceAdd, Int.reduceSub, Int.reduceMul, Int.reduceNeg, Int.reduceGT, Int.reduceGE, Nat.reduceMod, ty_3])
 | with_reducible first
 | (refine hX _ _ ?_; clear hX X)
 | (refine ZG ?_; try clear hall all)
 | (refine hK _ _ ?_; clear hK K)
 | refine ZL ?_
 | (refine v_0 _ _ ?_; try clear v_0 V_0)
 | ((first | refine qr 1 [2] ?_ | refine qr 0 [0] ?_); intro V_0 v_0)
 | (refine ZM ?_; intro K hK)
 | (refine ZN ?_; intro all hall K hK)
 | (refine ZQ ?_ ?_)
 | refine ZT ?_ | refine ZU ?_ | refine ZW ?_)
  all_goals try clear v_0 V_0
  all_goals (first | rfl | (simp [hb]; done) | skip)
theorem sound_37 : Sound Tryz.prog 37 .body (norm s37) := by
  refine sb Tryz.func37 rfl (by kernel_rfl) G37_ok (by kernel_rfl) fun ds p r hs hp => ?_
  unfold s37 at hs
  split at hs
  · cases hs; exact ⟨Nat.le_of_ble_eq_true (by kernel_rfl), wk37 _ hp⟩
  · cases hs
end Go.Proofs.AMT
