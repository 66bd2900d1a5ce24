/- Part of the proof: own text. -/
import Derived.Test.YthdbkmpkebdliaaGreatDoorKG0
import Derived.Test.YthdbkmpkebdliaaGreatDoorKJ0
set_option linter.all false
set_option maxHeartbeats 20000000
set_option maxRecDepth 20000
namespace Go.Proofs.AMT
open Go.AM Go.AM.LN
attribute [local congr] bindO_congr bindS_congr bindG_congr awpOps_congr aOne_congr awp_congr aCond_congr awpD_congr dOne_congr keysB_congr nOne_congr thenP_congr blockP_congr Chk_congr Brk_congr
noncomputable def s36 : Cs := fun ds => match ds with
  | [.v (.int .i64 n), .v (.agg ⟨[.int .u64 b0, .int .u64 b1, .int .u64 b2, .int .u64 b3]⟩)] => some ((0 ≤ b0 ∧ b0 < 18446744073709551616) ∧ (0 ≤ b1 ∧ b1 < 18446744073709551616) ∧ (0 ≤ b2 ∧ b2 < 18446744073709551616) ∧ (0 ≤ b3 ∧ b3 < 18446744073709551616), .many [.v (.agg #[.int .i64 (dC n (V4 b0 b1 b2 b3)), .bool (dS n (V4 b0 b1 b2 b3)), .bool (dQ n (V4 b0 b1 b2 b3)), .int .i64 (dX n (V4 b0 b1 b2 b3)), .int .u64 (w4 (dV n (V4 b0 b1 b2 b3)) 0), .int .u64 (w4 (dV n (V4 b0 b1 b2 b3)) 1), .int .u64 (w4 (dV n (V4 b0 b1 b2 b3)) 2), .int .u64 (w4 (dV n (V4 b0 b1 b2 b3)) 3)]), .v (.bool (finB n (V4 b0 b1 b2 b3)))])
  | _ => none
theorem s36_eq (n : Int) (b0 b1 b2 b3 : Int) : norm s36 [.v (.int .i64 n), .v (.agg #[.int .u64 b0, .int .u64 b1, .int .u64 b2, .int .u64 b3])] = s36 [.v (.int .i64 n), .v (.agg #[.int .u64 b0, .int .u64 b1, .int .u64 b2, .int .u64 b3])] := rfl
noncomputable def G36 : Gam := [(29, .body, norm s29), (44, .body, norm s44)]
theorem G36_ok : Gk Tryz.prog G36 := Gc sound_29 (Gc sound_44 Gn)
theorem k36_29 : lk G36 29 = some (.body, norm s29) := rfl
theorem k36_44 : lk G36 44 = some (.body, norm s44) := rfl
theorem wk36 (n : Int) (b0 b1 b2 b3 : Int) (hp : (0 ≤ b0 ∧ b0 < 18446744073709551616) ∧ (0 ≤ b1 ∧ b1 < 18446744073709551616) ∧ (0 ≤ b2 ∧ b2 < 18446744073709551616) ∧ (0 ≤ b3 ∧ b3 < 18446744073709551616)) : awp ty G36 (code Tryz.f36) (retP ty Tryz.f36.results.toList (.many [.v (.agg #[.int .i64 (dC n (V4 b0 b1 b2 b3)), .bool (dS n (V4 b0 b1 b2 b3)), .bool (dQ n (V4 b0 b1 b2 b3)), .int .i64 (dX n (V4 b0 b1 b2 b3)), .int .u64 (w4 (dV n (V4 b0 b1 b2 b3)) 0), .int .u64 (w4 (dV n (V4 b0 b1 b2 b3)) 1), .int .u64 (w4 (dV n (V4 b0 b1 b2 b3)) 2), .int .u64 (w4 (dV n (V4 b0 b1 b2 b3)) 3)]), .v (.bool (finB n (V4 b0 b1 b2 b3)))])) (entry 0 [.v (.int .i64 n), .v (.agg #[.int .u64 b0, .int .u64 b1, .int .u64 b2, .int .u64 b3])]) [] := by
  unfold code
  simp only [Tryz.f36, Option.getD_some]
  have hO : decide ((4 : Int) ≥ 5) = false := rfl
  have hD : decide ((4 : Int) ≥ 5) = false := rfl
  have hZ : decide ((4 : Int) ≥ 5) = false := rfl
  have gk : decide ((4 : Int) ≥ 5) = false := rfl
  obtain ⟨V, hV⟩ : ∃ V, (V4 b0 b1 b2 b3) = V := ⟨_, rfl⟩
  have hF := finB_cases n V
  rcases hF with ⟨hf, hO⟩ | ⟨hf, hO, hD⟩ | ⟨hf, hO, hD, hZ⟩ | ⟨hf, hO, hD, hZ, hn⟩
  all_goals rw [hV, hf]
  case' inr.inr.inr =>
    have gk : (decide (n ≥ 1) && decide (n ≤ 6)) = true := by rw [decide_eq_true (by omega : n ≥ 1), decide_eq_true (by omega : n ≤ 6)]; rfl
  all_goals repeat' (first
 | ((with_reducible first | (refine ZA ?_; intro X hX) | (refine ZB ?_; intro X hX) | (show awp _ _ _ _ (Kp _ _) _) | (refine hX _ _ _ _ ?_; clear hX X) | (refine ZC ?_; intro X hX) | refine ZD ?_ | refine ZE ?_ | refine ZF ?_ | ((show Bg _ _ _ _ _); simp only [hall]) | (refine ZR ?_ ?_ <;> intro hb <;> (try simp only [hb]) <;> have hq := hb <;> try simp only [HQ] at hq)) <;> try simp only [Go.AM.SS, Nat.reduceAdd, Nat.reduceMul, Nat.reduceSub, ↓reduceIte, Nat.reduceEqDiff, Nat.reduceLT, Nat.reduceLeDiff, reduceCtorEq, Int.reduceBEq, Int.reduceBNe, Nat.reduceBEq, Int.reduceEq, Int.reduceToNat, Int.reduceLE, Int.reduceLT, Nat.reduceDiv, Int.reduceAdd, Int.reduceSub, Int.reduceMul, Int.reduceNeg, Int.reduceGT, Int.reduceGE, Nat.reduceMod, k36_29, s29.eq_1, s29_eq, k36_44, s44.eq_1, s44_eq, ty_3, ty_4, ty_22, ty_24, ty_26, ty_33, beq_self_eq_true, hV, hO, hD, hZ, gk])
 | with_reducible first
 | (refine hX _ _ ?_; clear hX X)
 | (refine ZI ?_; try clear hall all)
 | (refine ZJ ?_; kernel_rfl)
 | ((show clashK _ _ _ = true); kernel_rfl)
 | (refine ZG ?_; try clear hall all)
 | (refine ZH ?_; try clear hall all)
 | (refine hK _ _ ?_; clear hK K)
 | refine ZL ?_
 | (refine v_0 _ _ ?_; try clear v_0 V_0)
 | ((first | refine qr 2 [4,5] ?_ | refine qr 1 [0,4,6,7] ?_ | refine qr 0 [0,3,4] ?_); intro V_0 v_0)
 | (refine ZM ?_; intro K hK)
 | (refine ZN ?_; intro all hall K hK)
 | (refine Da (id := 2) ?_ ?_; kernel_rfl; intro all hall K hK)
 | (refine ZO ?_ ?_; kernel_rfl; intro all hall K hK)
 | (refine ZQ ?_ ?_)
 | (refine ZK ?_; kernel_rfl)
 | refine ZT ?_ | refine ZU ?_ | refine ZW ?_)
  all_goals try clear v_0 V_0
  all_goals (try simp only [inR])
  all_goals first
    | omega
    | skip
theorem sound_36 : Sound Tryz.prog 36 .body (norm s36) := by
  refine sb Tryz.func36 rfl (by kernel_rfl) G36_ok (by kernel_rfl) fun ds p r hs hp => ?_
  unfold s36 at hs
  split at hs
  · cases hs; exact ⟨Nat.le_of_ble_eq_true (by kernel_rfl), wk36 _ _ _ _ _ hp⟩
  · cases hs
noncomputable def s38 : Cs := fun ds => match ds with
  | [.v (.agg ⟨[.int .u64 b0, .int .u64 b1, .int .u64 b2, .int .u64 b3]⟩)] => some ((0 ≤ b0 ∧ b0 < 18446744073709551616) ∧ (0 ≤ b1 ∧ b1 < 18446744073709551616) ∧ (0 ≤ b2 ∧ b2 < 18446744073709551616) ∧ (0 ≤ b3 ∧ b3 < 18446744073709551616), .one (.fresh .u64 (limbs (V4 b0 b1 b2 b3))))
  | _ => none
theorem s38_eq (b0 b1 b2 b3 : Int) : norm s38 [.v (.agg #[.int .u64 b0, .int .u64 b1, .int .u64 b2, .int .u64 b3])] = s38 [.v (.agg #[.int .u64 b0, .int .u64 b1, .int .u64 b2, .int .u64 b3])] := rfl
noncomputable def G38 : Gam := [(105, .body, norm s105)]
theorem G38_ok : Gk Tryz.prog G38 := Gc sound_105 Gn
theorem k38_105 : lk G38 105 = some (.body, norm s105) := rfl
theorem wk38 (b0 b1 b2 b3 : Int) (hp : (0 ≤ b0 ∧ b0 < 18446744073709551616) ∧ (0 ≤ b1 ∧ b1 < 18446744073709551616) ∧ (0 ≤ b2 ∧ b2 < 18446744073709551616) ∧ (0 ≤ b3 ∧ b3 < 18446744073709551616)) : awp ty G38 (code Tryz.f38) (retP ty Tryz.f38.results.toList (.one (.fresh .u64 (limbs (V4 b0 b1 b2 b3))))) (entry 0 [.v (.agg #[.int .u64 b0, .int .u64 b1, .int .u64 b2, .int .u64 b3])]) [] := by
  unfold code
  simp only [Tryz.f38, Option.getD_some]
  have hV : val [b0, b1, b2, b3] = (V4 b0 b1 b2 b3) := rfl
  have l4 := lim4 hp.1 hp.2.1 hp.2.2.1 hp.2.2.2
  all_goals repeat' (first
 | ((with_reducible first | (refine ZA ?_; intro X hX) | (show awp _ _ _ _ (Kp _ _) _) | refine ZD ?_ | refine ZE ?_ | refine ZF ?_ | ((show Bg _ _ _ _ _); simp only [hall]) | (refine ZR ?_ ?_ <;> intro hb <;> (try simp only [hb]) <;> have hq := hb <;> try simp only [HQ] at hq)) <;> try simp only [Go.AM.SS, Nat.reduceAdd, Nat.reduceMul, Nat.reduceSub, ↓reduceIte, Nat.reduceEqDiff, Nat.reduceLT, Nat.reduceLeDiff, reduceCtorEq, Int.reduceBEq, Int.reduceBNe, Nat.reduceBEq, Int.reduceEq, Int.reduceToNat, Int.reduceLE, Int.reduceLT, Nat.reduceDiv, Int.reduceAdd, Int.reduceSub, Int.reduceMul, Int.reduceNeg, Int.reduceGT, Int.reduceGE, Nat.reduceMod, k38_105, s105.eq_1, s105_eq, s105_nil1, ty_22, ty_24, ty_50, toInts, hV])
 | with_reducible first
 | (refine hX _ _ ?_; clear hX X)
 | (refine ZG ?_; try clear hall all)
 | (refine hK _ _ ?_; clear hK K)
 | refine ZL ?_
 | (refine v_0 _ _ ?_; try clear v_0 V_0)
 | ((first | refine qr 1 [2] ?_ | refine qr 0 [1] ?_); intro V_0 v_0)
 | (refine ZM ?_; intro K hK)
 | (refine ZN ?_; intro all hall K hK)
 | (refine ZQ ?_ ?_)
 | refine ZT ?_ | refine ZU ?_ | refine ZW ?_)
  all_goals try clear v_0 V_0
  all_goals (try simp only [inR])
  all_goals first
    | omega
    | exact ⟨l4, Nat.le_of_ble_eq_true rfl⟩
    | skip
theorem sound_38 : Sound Tryz.prog 38 .body (norm s38) := by
  refine sb Tryz.func38 rfl (by kernel_rfl) G38_ok (by kernel_rfl) fun ds p r hs hp => ?_
  unfold s38 at hs
  split at hs
  · cases hs; exact ⟨Nat.le_of_ble_eq_true (by kernel_rfl), wk38 _ _ _ _ hp⟩
  · cases hs
noncomputable def s43 : Cs := fun ds => match ds with
  | [.v (.bool sg), .v (.string s), .v (.int .i64 e)] => some ((1 ≤ s.size ∧ s.size ≤ 100000) ∧ -1000000 ≤ e ∧ e ≤ 1000000, .one (.v (.string (bs (layT sg s.data.toList e)))))
  | _ => none
theorem s43_eq (sg : Bool) (s : ByteArray) (e : Int) : norm s43 [.v (.bool sg), .v (.string s), .v (.int .i64 e)] = s43 [.v (.bool sg), .v (.string s), .v (.int .i64 e)] := rfl
noncomputable def G43 : Gam := [(66, .body, norm lItoa)]
theorem G43_ok : Gk Tryz.prog G43 := Gc snd_lItoa Gn
theorem k43_66 : lk G43 66 = some (.body, norm lItoa) := rfl
theorem wk43 (sg : Bool) (s : ByteArray) (e : Int) (hp : (1 ≤ s.size ∧ s.size ≤ 100000) ∧ -1000000 ≤ e ∧ e ≤ 1000000) : awp ty G43 (code Tryz.f43) (retP ty Tryz.f43.results.toList (.one (.v (.string (bs (layT sg s.data.toList e)))))) (entry 0 [.v (.bool sg), .v (.string s), .v (.int .i64 e)]) [] := by
  unfold code
  simp only [Tryz.f43, Option.getD_some]
  obtain ⟨l, rfl⟩ : ∃ l, s = bs l := ⟨_, Bt s⟩
  rw [Bz] at hp
  rw [Bd]
  have hil := Go.Lib.itoa_length_le (e + l.length - 1) (by omega) (by omega)
  have t1 : (l.take 1).length ≤ 1 := by rw [List.length_take]; omega
  have t2 : List.take (l.length - 1) (l.drop 1) = l.drop 1 := List.take_of_length_le (by rw [List.length_drop]; omega)
  have t3 : (l.drop 1).length ≤ l.length := by rw [List.length_drop]; omega
  all_goals repeat' (first
 | ((with_reducible first | (refine ZA ?_; intro X hX) | (show awp _ _ _ _ (Kp _ _) _) | refine ZD ?_ | refine ZE ?_ | refine ZF ?_ | ((show Bg _ _ _ _ _); simp only [hall]) | (refine ZR ?_ ?_ <;> intro hb <;> (try simp only [hb]) <;> have hq := hb <;> try simp only [HQ] at hq)) <;> try simp only [Go.AM.SS, Nat.reduceAdd, Nat.reduceMul, Nat.reduceSub, ↓reduceIte, Nat.reduceEqDiff, Nat.reduceLT, Nat.reduceLeDiff, reduceCtorEq, Int.reduceBEq, Int.reduceBNe, Nat.reduceBEq, Int.reduceEq, Int.reduceToNat, Int.reduceLE, Int.reduceLT, Nat.reduceDiv, Int.reduceAdd, Int.reduceSub, Int.reduceMul, Int.reduceNeg, Int.reduceGT, Int.reduceGE, Nat.reduceMod, k43_66, lItoa_eq, ty_3, ty_9, bs_lit, bs_app, Bz, bs_beq, Bi, Bd, Be, bt_bs, List.length_append, List.append_nil, List.nil_append, List.cons_append, t2])
 | with_reducible first
 | (refine hX _ _ ?_; clear hX X)
 | (refine ZG ?_; try clear hall all)
 | (refine hK _ _ ?_; clear hK K)
 | refine ZL ?_
 | (refine v_0 _ _ ?_; try clear v_0 V_0)
 | (refine v_1 _ _ ?_; try clear v_1 V_1)
 | ((first | refine qr 7 [6] ?_ | refine Zh (a := .seq (.region 5 _ _) _) [1,2,7] ?_ | refine qr 4 [1,2,7] ?_ | refine Zh (a := .seq (.region 2 _ _) _) [1,2,7] ?_ | refine qr 1 [0,1,2,7] ?_ | refine qr 0 [0,1,2] ?_); intro V_0 v_0)
 | ((first | refine qr 5 [1,2,7,15] ?_ | refine qr 2 [1,2,7,8] ?_); intro V_1 v_1)
 | (refine ZM ?_; intro K hK)
 | (refine ZN ?_; intro all hall K hK)
 | (refine ZQ ?_ ?_)
 | refine ZT ?_ | refine ZU ?_ | refine ZW ?_)
  all_goals try clear v_1 V_1
  all_goals try clear v_0 V_0
  all_goals (try simp only [inR])
  all_goals first
    | omega
    | (have h5 : 1 < l.length := by omega
       subst_vars; simp [layT, h5]; done)
    | (have h5 : ¬ 1 < l.length := by omega
       subst_vars; simp [layT, h5]; done)
    | skip
theorem sound_43 : Sound Tryz.prog 43 .body (norm s43) := by
  refine sb Tryz.func43 rfl (by kernel_rfl) G43_ok (by kernel_rfl) fun ds p r hs hp => ?_
  unfold s43 at hs
  split at hs
  · cases hs; exact ⟨Nat.le_of_ble_eq_true (by kernel_rfl), wk43 _ _ _ hp⟩
  · cases hs
noncomputable def s9 : Cs := fun ds => match ds with
  | [.v (.int .i64 n), .v (.agg ⟨[.int .u64 b0, .int .u64 b1, .int .u64 b2, .int .u64 b3]⟩), .v (.int .i64 r)] => some ((0 ≤ b0 ∧ b0 < 18446744073709551616) ∧ (0 ≤ b1 ∧ b1 < 18446744073709551616) ∧ (0 ≤ b2 ∧ b2 < 18446744073709551616) ∧ (0 ≤ b3 ∧ b3 < 18446744073709551616), .one (.v (.bool true)))
  | _ => none
noncomputable def G9 : Gam := [(31, .body, norm s31), (32, .body, norm s32), (36, .body, norm s36), (37, .body, norm s37), (38, .body, norm s38), (39, .body, norm s39), (40, .body, norm s40), (41, .body, norm s41), (42, .body, norm s42), (43, .body, norm s43)]
theorem G9_ok : Gk Tryz.prog G9 := Gc sound_31 (Gc sound_32 (Gc sound_36 (Gc sound_37 (Gc sound_38 (Gc sound_39 (Gc sound_40 (Gc sound_41 (Gc sound_42 (Gc sound_43 Gn)))))))))
theorem k9_31 : lk G9 31 = some (.body, norm s31) := rfl
theorem k9_32 : lk G9 32 = some (.body, norm s32) := rfl
theorem k9_36 : lk G9 36 = some (.body, norm s36) := rfl
theorem k9_37 : lk G9 37 = some (.body, norm s37) := rfl
theorem k9_38 : lk G9 38 = some (.body, norm s38) := rfl
theorem k9_39 : lk G9 39 = some (.body, norm s39) := rfl
theorem k9_40 : lk G9 40 = some (.body, norm s40) := rfl
theorem k9_41 : lk G9 41 = some (.body, norm s41) := rfl
theorem k9_42 : lk G9 42 = some (.body, norm s42) := rfl
theorem k9_43 : lk G9 43 = some (.body, norm s43) := rfl
theorem wk9 (n : Int) (b0 b1 b2 b3 : Int) (r : Int) (hp : (0 ≤ b0 ∧ b0 < 18446744073709551616) ∧ (0 ≤ b1 ∧ b1 < 18446744073709551616) ∧ (0 ≤ b2 ∧ b2 < 18446744073709551616) ∧ (0 ≤ b3 ∧ b3 < 18446744073709551616)) : awp ty G9 (code Tryz.f9) (retP ty Tryz.f9.results.toList (.one (.v (.bool true)))) (entry 0 [.v (.int .i64 n), .v (.agg #[.int .u64 b0, .int .u64 b1, .int .u64 b2, .int .u64 b3]), .v (.int .i64 r)]) [] := by
  unfold code
  simp only [Tryz.f9, Option.getD_some]
  have q0 : decide ((4 : Int) ≥ 5) = false := rfl
  have q1 : decide ((4 : Int) ≥ 5) = false := rfl
  have q2 : decide ((4 : Int) ≥ 5) = false := rfl
  have q3 : decide ((4 : Int) ≥ 5) = false := rfl
  have gF : decide ((4 : Int) ≥ 5) = false := rfl
  have gR : decide ((4 : Int) ≥ 5) = false := rfl
  have hC4 : decide ((4 : Int) ≥ 5) = false := rfl
  have g0 : decide ((4 : Int) ≥ 5) = false := rfl
  have hN : decide ((4 : Int) ≥ 5) = false := rfl
  have gL : decide ((4 : Int) ≥ 5) = false := rfl
  have hE1 : decide ((4 : Int) ≥ 5) = false := rfl
  have hE2 : decide ((4 : Int) ≥ 5) = false := rfl
  have hE3 : decide ((4 : Int) ≥ 5) = false := rfl
  have hk1 : decide ((4 : Int) ≥ 5) = false := rfl
  have hk2 : decide ((4 : Int) ≥ 5) = false := rfl
  have i5 : decide ((4 : Int) ≥ 5) = false := rfl
  have hCe : decide ((4 : Int) ≥ 5) = false := rfl
  have hXe : decide ((4 : Int) ≥ 5) = false := rfl
  obtain ⟨q0, q1, q2, q3⟩ := w4_V4 hp.1 hp.2.1 hp.2.2.1 hp.2.2.2
  obtain ⟨V, hV⟩ : ∃ V, (V4 b0 b1 b2 b3) = V := ⟨_, rfl⟩
  rw [hV] at q0 q1 q2 q3
  have i5 : (5 : Int).toNat = 5 := rfl
  rcases Bool.eq_false_or_eq_true (finB n V) with gF | gF
  case' inl =>
    obtain ⟨hn, hC, hCl, hD, hP, x1, x2⟩ := fin_ok gF
    obtain ⟨C, hCe⟩ : ∃ C, dV n V = C := ⟨_, rfl⟩
    obtain ⟨e, hXe⟩ : ∃ e, dX n V = e := ⟨_, rfl⟩
    rw [hCe] at hC hCl hD hP
    rw [hXe] at hD hP x1 x2
    have hC4 := V4_w4 (Nat.lt_trans hCl (Nat.pow_lt_pow_right (by decide) (by decide)))
    have hl4 := len4 (Nat.lt_trans hCl (Nat.pow_lt_pow_right (a := 2) (n := 256) (by decide) (by decide)))
    have hc : ¬ (0 ≤ r ∧ r ≤ 4) ∨ ((0 ≤ r ∧ r ≤ 4) ∧ 0 ≤ e) ∨ ((0 ≤ r ∧ r ≤ 4) ∧ e < 0) := by omega
    rcases hc with hr | ⟨hr, h0⟩ | ⟨hr, h0⟩
    case' inl =>
      have gR : (decide (r ≥ 0) && decide (r ≤ 4)) = false := by
        rw [Bool.and_eq_false_iff, decide_eq_false_iff_not, decide_eq_false_iff_not]; omega
    case' inr.inl =>
      have gR : (decide (r ≥ 0) && decide (r ≤ 4)) = true := by rw [decide_eq_true (by omega : r ≥ 0), decide_eq_true (by omega : r ≤ 4)]; rfl
      have hR := okR_y hn hr
      have g0 : decide (e ≥ 0) = true := decide_eq_true h0
      obtain ⟨n1, n2, n3⟩ := all_up hC hCl h0 x2
      obtain ⟨N, hN⟩ : ∃ N, C * 2 ^ e.toNat = N := ⟨_, rfl⟩
      rw [hN] at n1 n2 n3
      have l9 := decS_len9 n1
      have hlN := ten_len n1
      rcases Classical.em (((decS N).length : Int) > 3900) with hl | hl
      all_goals first
        | (have gL : decide (((decS N).length : Int) > 3900) = true := decide_eq_true hl)
        | (have gL : decide (((decS N).length : Int) > 3900) = false := decide_eq_false hl
           obtain ⟨hE1, hE2, hE3⟩ := exact_rd (sg := dS n V) (e := 0) hn hR hD hC (by omega) (by omega) n3 n2
           rw [hP] at hE3
           have hne : 1 ≤ (decS N).length := by
             have : decS N ≠ [] := by unfold decS; rw [if_neg n2]; exact decD_ne N
             exact List.length_pos_iff.2 this)
    case' inr.inr =>
      have gR : (decide (r ≥ 0) && decide (r ≤ 4)) = true := by rw [decide_eq_true (by omega : r ≥ 0), decide_eq_true (by omega : r ≤ 4)]; rfl
      have hR := okR_y hn hr
      have g0 : decide (e ≥ 0) = false := decide_eq_false (by omega)
      obtain ⟨n1, n2, n3⟩ := all_down hC hCl h0 x1
      obtain ⟨k, hk1⟩ : ∃ k : Nat, -e = (k : Int) := ⟨(-e).toNat, by omega⟩
      have hk2 : 0 - e = (k : Int) := by omega
      have hk3 : (-e).toNat = k := by omega
      have hk17 : k ≤ 17000 := by omega
      have hl5 := pow5_len k
      obtain ⟨N, hN0⟩ : ∃ N, C * 5 ^ (-e).toNat = N := ⟨_, rfl⟩
      rw [hN0] at n1 n2 n3
      have hN : C * 5 ^ k = N := by rw [← hk3]; exact hN0
      have l9 := decS_len9 n1
      have hlN := ten_len n1
      rcases Classical.em (((decS N).length : Int) > 3900) with hl | hl
      all_goals first
        | (have gL : decide (((decS N).length : Int) > 3900) = true := decide_eq_true hl)
        | (have gL : decide (((decS N).length : Int) > 3900) = false := decide_eq_false hl
           obtain ⟨hE1, hE2, hE3⟩ := exact_rd (sg := dS n V) (e := e) hn hR hD hC (by omega) (by omega) n3 n2
           rw [hP] at hE3
           have hne : 1 ≤ (decS N).length := by
             have : decS N ≠ [] := by unfold decS; rw [if_neg n2]; exact decD_ne N
             exact List.length_pos_iff.2 this)
  all_goals repeat' (first
 | ((with_reducible first | (refine ZA ?_; intro X hX) | (refine ZB ?_; intro X hX) | (show awp _ _ _ _ (Kp _ _) _) | refine ZD ?_ | refine ZE ?_ | refine ZF ?_ | ((show Bg _ _ _ _ _); simp only [hall]) | (refine ZR ?_ ?_ <;> intro hb <;> (try simp only [hb]) <;> have hq := hb <;> try simp only [HQ] at hq)) <;> try simp only [Go.AM.SS, Nat.reduceAdd, Nat.reduceMul, Nat.reduceSub, ↓reduceIte, Nat.reduceEqDiff, Nat.reduceLT, Nat.reduceLeDiff, reduceCtorEq, Int.reduceBEq, Int.reduceBNe, Nat.reduceBEq, Int.reduceEq, Int.reduceToNat, Int.reduceLE, Int.reduceLT, Nat.reduceDiv, Int.reduceAdd, Int.reduceSub, Int.reduceMul, Int.reduceNeg, Int.reduceGT, Int.reduceGE, Nat.reduceMod, k9_31, s31.eq_1, s31_eq, k9_32, s32.eq_1, s32_eq, k9_36, s36.eq_1, s36_eq, k9_37, s37.eq_1, s37_eq, k9_38, s38.eq_1, s38_eq, k9_39, s39.eq_1, s39_eq, s39_nil1, k9_40, s40.eq_1, s40_eq, s40_nil1, s40_nil2, s40_nil3, k9_41, s41.eq_1, s41_eq, k9_42, s42.eq_1, s42_eq, s42_nil1, k9_43, s43.eq_1, s43_eq, ty_3, ty_4, ty_9, ty_22, ty_24, ty_26, ty_33, ty_50, beq_self_eq_true, toInts, Vl, Int.toNat_natCast, q0, q1, q2, q3, gF, gR, hC4, g0, hN, gL, hE1, hE2, hE3, hk1, hk2, i5, hCe, hXe, hV, bs_lit, bs_app, Bz, bs_beq, Bi, Bd, Be, bt_bs, List.length_append, List.append_nil, List.nil_append, List.cons_append])
 | with_reducible first
 | (refine hX _ _ ?_; clear hX X)
 | (refine ZG ?_; try clear hall all)
 | (refine ZH ?_; try clear hall all)
 | (refine hK _ _ ?_; clear hK K)
 | refine ZL ?_
 | (refine v_0 _ _ ?_; try clear v_0 V_0)
 | (refine v_1 _ _ ?_; try clear v_1 V_1)
 | ((first | refine qr 14 [6] ?_ | refine qr 13 [4,12,13,14] ?_ | refine Zh (a := .seq (.region 11 _ _) _) [0,2,4,7,10,11] ?_ | refine qr 10 [0,2,4,7,10,11] ?_ | refine Zh (a := .seq (.region 7 _ _) _) [0,2,4,7,9,10] ?_ | refine qr 6 [0,2,4,7,9,10] ?_ | refine Zh (a := .seq (.region 4 _ _) _) [0,2,4,7] ?_ | refine qr 3 [0,2,4,7,8] ?_ | refine Zh (a := .seq (.region 1 _ _) _) [0,2,4] ?_ | refine qr 0 [0,2,4] ?_); intro V_0 v_0)
 | ((first | refine qr 12 [6] ?_ | refine qr 11 [0,2,4,7,10,11,52] ?_ | refine qr 7 [0,2,4,7,9,10,35] ?_ | refine qr 5 [6] ?_ | refine qr 4 [0,2,4,7,29] ?_ | refine qr 2 [6] ?_ | refine qr 1 [0,2,4,16] ?_); intro V_1 v_1)
 | (refine ZM ?_; intro K hK)
 | (refine ZN ?_; intro all hall K hK)
 | (refine ZO ?_ ?_; kernel_rfl; intro all hall K hK)
 | (refine ZQ ?_ ?_)
 | (refine ZK ?_; kernel_rfl)
 | refine ZT ?_ | refine ZU ?_ | refine ZW ?_)
  all_goals try clear v_1 V_1
  all_goals try clear v_0 V_0
  all_goals (try simp only [inR])
  all_goals first
    | omega
    | exact ⟨Wl _ _, Wl _ _, Wl _ _, Wl _ _⟩
    | exact ⟨⟨Ml _, by omega⟩, Ml _, by omega⟩
    | exact ⟨⟨Ml _, by omega⟩, n1⟩
    | exact ⟨⟨Ml _, by omega⟩, by omega, by omega⟩
    | (have h8 := layT_len (sg := dS n V) (S := decS N) (e := e) ⟨by omega, by omega⟩; omega)
    | (have h8 := layT_len (sg := dS n V) (S := decS N) (e := 0) ⟨by omega, by omega⟩; omega)
    | skip
theorem sound_9 : Sound Tryz.prog 9 .body (norm s9) := by
  refine sb Tryz.func9 rfl (by kernel_rfl) G9_ok (by kernel_rfl) fun ds p r hs hp => ?_
  unfold s9 at hs
  split at hs
  · cases hs; exact ⟨Nat.le_of_ble_eq_true (by kernel_rfl), wk9 _ _ _ _ _ _ hp⟩
  · cases hs
end Go.Proofs.AMT
