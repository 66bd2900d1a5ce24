/- Part of the proof: own text. -/
import Derived.Test.YthdbkmpkebdliaaGreatDoorKI0
import Derived.Test.YthdbkmpkebdliaaGreatDoorKK1
set_option linter.all false
set_option maxHeartbeats 20000000
namespace Go.AM.LN
theorem p10q (a b : Nat) (h : a ≤ b) : 10 ^ a ≤ 10 ^ b := Nat.pow_le_pow_right (by decide) h
end Go.AM.LN
set_option maxRecDepth 20000
namespace Go.Proofs.AMT
open Go.AM Go.AM.LN
attribute [local congr] bindO_congr bindS_congr bindG_congr awpOps_congr aOne_congr awp_congr aCond_congr awpD_congr dOne_congr keysB_congr nOne_congr thenP_congr blockP_congr Chk_congr Brk_congr
noncomputable def s35 : Cs := fun ds => match ds with
  | [.v (.int .i64 n), .v (.int .i64 r), .v (.agg ⟨[.int .i64 cl, .bool sg, .bool si, .string D, .int .i64 ex]⟩)] => some (D.size ≤ 10000 ∧ -9223372036854775808 ≤ ex ∧ ex ≤ 9223372036854775807, .many [.v (.agg #[.int .u64 (w4 (mkV n r cl sg si D.data.toList ex) 0), .int .u64 (w4 (mkV n r cl sg si D.data.toList ex) 1), .int .u64 (w4 (mkV n r cl sg si D.data.toList ex) 2), .int .u64 (w4 (mkV n r cl sg si D.data.toList ex) 3)]), .v (.int .i64 (mkF n r cl sg si D.data.toList ex)), .v (.int .i64 (mkE n r cl sg si D.data.toList ex))])
  | _ => none
theorem s35_eq (n : Int) (r : Int) (cl : Int) (sg : Bool) (si : Bool) (D : ByteArray) (ex : Int) : norm s35 [.v (.int .i64 n), .v (.int .i64 r), .v (.agg #[.int .i64 cl, .bool sg, .bool si, .string D, .int .i64 ex])] = s35 [.v (.int .i64 n), .v (.int .i64 r), .v (.agg #[.int .i64 cl, .bool sg, .bool si, .string D, .int .i64 ex])] := rfl
noncomputable def G35 : Gam := [(30, .body, norm s30), (37, .body, norm s37), (41, .body, norm s41), (44, .body, norm s44), (46, .body, norm s46), (61, .body, norm s61), (81, .body, norm s81), (102, .body, norm s102), (103, .body, norm s103), (104, .body, norm s104)]
theorem G35_ok : Gk Tryz.prog G35 := Gc sound_30 (Gc sound_37 (Gc sound_41 (Gc sound_44 (Gc sound_46 (Gc sound_61 (Gc sound_81 (Gc sound_102 (Gc sound_103 (Gc sound_104 Gn)))))))))
theorem k35_30 : lk G35 30 = some (.body, norm s30) := rfl
theorem k35_37 : lk G35 37 = some (.body, norm s37) := rfl
theorem k35_41 : lk G35 41 = some (.body, norm s41) := rfl
theorem k35_44 : lk G35 44 = some (.body, norm s44) := rfl
theorem k35_46 : lk G35 46 = some (.body, norm s46) := rfl
theorem k35_61 : lk G35 61 = some (.body, norm s61) := rfl
theorem k35_81 : lk G35 81 = some (.body, norm s81) := rfl
theorem k35_102 : lk G35 102 = some (.body, norm s102) := rfl
theorem k35_103 : lk G35 103 = some (.body, norm s103) := rfl
theorem k35_104 : lk G35 104 = some (.body, norm s104) := rfl
theorem wk35 (n : Int) (r : Int) (cl : Int) (sg : Bool) (si : Bool) (D : ByteArray) (ex : Int) (hp : D.size ≤ 10000 ∧ -9223372036854775808 ≤ ex ∧ ex ≤ 9223372036854775807) : awp ty G35 (code Tryz.f35) (retP ty Tryz.f35.results.toList (.many [.v (.agg #[.int .u64 (w4 (mkV n r cl sg si D.data.toList ex) 0), .int .u64 (w4 (mkV n r cl sg si D.data.toList ex) 1), .int .u64 (w4 (mkV n r cl sg si D.data.toList ex) 2), .int .u64 (w4 (mkV n r cl sg si D.data.toList ex) 3)]), .v (.int .i64 (mkF n r cl sg si D.data.toList ex)), .v (.int .i64 (mkE n r cl sg si D.data.toList ex))])) (entry 0 [.v (.int .i64 n), .v (.int .i64 r), .v (.agg #[.int .i64 cl, .bool sg, .bool si, .string D, .int .i64 ex])]) [] := by
  unfold code
  simp only [Tryz.f35, Option.getD_some]
  obtain ⟨l, rfl⟩ : ∃ l, D = bs l := ⟨_, Bt D⟩
  rw [Bz] at hp
  rw [Bd]
  have hV0 : V4 0 0 0 0 = 0 := rfl
  have i2 : (2 : Int).toNat = 2 := rfl
  have i10 : (10 : Int).toNat = 10 := rfl
  obtain ⟨E, hE⟩ : ∃ E, min (max ex (-12000)) 12000 = E := ⟨_, rfl⟩
  have hcE : clE 12000 ex = E := hE
  have hEb : -12000 ≤ E ∧ E ≤ 12000 := by omega
  have hSE : scE 10 E = E := by rw [scE10]; omega
  have hc : ¬ (1 ≤ n ∧ n ≤ 6) ∨ ((1 ≤ n ∧ n ≤ 6) ∧ ¬ (0 ≤ r ∧ r ≤ 4)) ∨ ((1 ≤ n ∧ n ≤ 6) ∧ 0 ≤ r ∧ r ≤ 4) := by omega
  rcases hc with hn | ⟨hn, hr⟩ | ⟨hn, hr⟩
  case' inl =>
    rw [(mk_no (okR_n hn)).1, (mk_no (okR_n hn)).2.1, (mk_no (okR_n hn)).2.2]
    have gk : (decide (n ≥ 1) && decide (n ≤ 6)) = false := by
      rw [Bool.and_eq_false_iff, decide_eq_false_iff_not, decide_eq_false_iff_not]; omega
    have gR : decide ((4 : Int) ≥ 5) = false := rfl
    have hG : decide ((4 : Int) ≥ 5) = false := rfl
    have g0 : decide ((4 : Int) ≥ 5) = false := rfl
    have hP : decide ((4 : Int) ≥ 5) = false := rfl
    have hI : decide ((4 : Int) ≥ 5) = false := rfl
  case' inr.inl =>
    rw [(mk_no (okR_d hr)).1, (mk_no (okR_d hr)).2.1, (mk_no (okR_d hr)).2.2]
    have gk : (decide (n ≥ 1) && decide (n ≤ 6)) = true := by rw [decide_eq_true (by omega : n ≥ 1), decide_eq_true (by omega : n ≤ 6)]; rfl
    have gR : (decide (r ≥ 0) && decide (r ≤ 4)) = false := by
      rw [Bool.and_eq_false_iff, decide_eq_false_iff_not, decide_eq_false_iff_not]; omega
    have hG : decide ((4 : Int) ≥ 5) = false := rfl
    have g0 : decide ((4 : Int) ≥ 5) = false := rfl
    have hP : decide ((4 : Int) ≥ 5) = false := rfl
    have hI : decide ((4 : Int) ≥ 5) = false := rfl
  case' inr.inr =>
    have hR := okR_y hn hr
    have gk : (decide (n ≥ 1) && decide (n ≤ 6)) = true := by rw [decide_eq_true (by omega : n ≥ 1), decide_eq_true (by omega : n ≤ 6)]; rfl
    have gR : (decide (r ≥ 0) && decide (r ≤ 4)) = true := by rw [decide_eq_true (by omega : r ≥ 0), decide_eq_true (by omega : r ≤ 4)]; rfl
    have hI := infoV_in (n := n) (by omega)
    obtain ⟨F1, F2, F3, F4, F5, F6, F7, F8, F9, F10, F11⟩ := bfmt hn
    rcases Bool.eq_false_or_eq_true (gGood cl sg si l ex) with hG | hG
    case' inr =>
      rw [(mk_bad hR hG).1, (mk_bad hR hG).2.1, (mk_bad hR hG).2.2]
      have g0 : decide ((4 : Int) ≥ 5) = false := rfl
      have hP : decide ((4 : Int) ≥ 5) = false := rfl
    case' inl =>
      obtain ⟨gl, gc, ga⟩ := good_len hG
      have hL := dv_len3 ga
      rw [mk_ok hR hG]
      rcases gc with rfl | rfl | rfl
      case' inl =>
        have hdv : dv l < 10 ^ 4000 := Nat.lt_of_lt_of_le (dv_lt l ga) (p10q l.length 4000 gl)
        rw [(mk_1 hR hG).1, (mk_1 hR hG).2, ← (far_eq hn hdv).1, ← (far_eq hn hdv).2]
        unfold tenX tenY
        rw [hcE]
        have hM := dv_mul_len ga E.toNat
        have hN := pow10_len (-E).toNat
        have hz0 : 10 ^ (-E).toNat ≠ 0 := Nat.pos_iff_ne_zero.1 (Nat.pow_pos (by decide))
        have hP : decide ((4 : Int) ≥ 5) = false := rfl
        rcases Nat.eq_zero_or_pos (dv l) with hz | hz
        all_goals first
          | (have g0 : decide (((limbs (dv l)).length : Int) > 0) = false := by rw [hz]; rfl)
          | (have g0 : decide (((limbs (dv l)).length : Int) > 0) = true := by
               have := (not_congr (len_zero (x := dv l))).2 (by omega)
               rw [decide_eq_true]; omega)
      case' inr.inl =>
        obtain ⟨rfl, rfl, rfl⟩ := good_2 hG
        rw [(mk_2 hR hG).1, (mk_2 hR hG).2]
        have g0 : decide ((4 : Int) ≥ 5) = false := rfl
        have hP : decide ((4 : Int) ≥ 5) = false := rfl
      case' inr.inr =>
        obtain rfl := good_3 hG
        rw [(mk_3 hR hG).1, (mk_3 hR hG).2]
        have hP := V4_w4 (payV_lt (q := si) (x := dv l) (B := 2 ^ (fl n).toNat) (Nat.pow_le_pow_right (by decide) (by omega)))
        have hPD := pay_isD (q := si) hn (dv l)
        have g0 : decide ((4 : Int) ≥ 5) = false := rfl
  all_goals repeat' (first
 | ((with_reducible first | (refine ZA ?_; intro X hX) | (refine ZB ?_; intro X hX) | (show awp _ _ _ _ (Kp _ _) _) | (refine hX _ _ _ _ ?_; clear hX X) | (refine ZC ?_; intro X hX) | refine ZD ?_ | refine ZE ?_ | refine ZF ?_ | ((show Bg _ _ _ _ _); simp only [hall]) | (refine ZR ?_ ?_ <;> intro hb <;> (try simp only [hb]) <;> have hq := hb <;> try simp only [HQ] at hq)) <;> try simp only [Go.AM.SS, Nat.reduceAdd, Nat.reduceMul, Nat.reduceSub, ↓reduceIte, Nat.reduceEqDiff, Nat.reduceLT, Nat.reduceLeDiff, reduceCtorEq, Int.reduceBEq, Int.reduceBNe, Nat.reduceBEq, Int.reduceEq, Int.reduceToNat, Int.reduceLE, Int.reduceLT, Nat.reduceDiv, Int.reduceAdd, Int.reduceSub, Int.reduceMul, Int.reduceNeg, Int.reduceGT, Int.reduceGE, Nat.reduceMod, k35_30, s30.eq_1, s30_eq, k35_37, s37.eq_1, s37_eq, k35_41, s41.eq_1, s41_eq, k35_44, s44.eq_1, s44_eq, k35_46, s46.eq_1, s46_eq, k35_61, s61.eq_1, s61_eq, k35_81, s81.eq_1, s81_eq, s81_nil1, s81_nil2, s81_nil3, k35_102, s102.eq_1, s102_eq, k35_103, s103.eq_1, s103_eq, s103_nil1, k35_104, s104.eq_1, s104_eq, s104_nil1, s104_nil2, s104_nil3, ty_3, ty_4, ty_9, ty_22, ty_24, ty_33, ty_42, ty_50, ty_62, bs_lit, bs_app, Bz, bs_beq, Bi, Bd, Be, bt_bs, List.length_append, List.append_nil, List.nil_append, List.cons_append, hV0, hI, infoT, gk, gR, hG, g0, i2, i10, hE, hSE, hP, toInts, Vl, val_1, limbs_getD, Bool.false_eq_true, Nat.one_mul])
 | with_reducible first
 | (refine hX _ _ ?_; clear hX X)
 | (refine ZI ?_; try clear hall all)
 | (refine ZJ ?_; kernel_rfl)
 | ((show clashK _ _ _ = true); kernel_rfl)
 | (refine ZG ?_; try clear hall all)
 | (refine ZH ?_; try clear hall all)
 | (refine hK _ _ ?_; clear hK K)
 | refine ZL ?_
 | (refine v_0 _ _ ?_; try clear v_0 V_0)
 | (refine v_1 _ _ ?_; try clear v_1 V_1)
 | ((first | refine qr 17 [6,7,8] ?_ | refine qr 16 [6,17,18] ?_ | refine Zh (a := .seq (.region 14 _ _) _) [0,1,5,6,15,16] ?_ | refine qr 13 [0,1,5,6,15,16] ?_ | refine Zh (a := .seq (.region 6 _ _) _) [0,1,5,6] ?_ | refine qr 5 [0,1,5,6,9] ?_ | refine Zh (a := .seq (.region 3 _ _) _) [0,1,5,6] ?_ | refine Zh (a := .seq (.region 1 _ _) _) [0,1,5,6] ?_ | refine qr 0 [0,1,5,6] ?_); intro V_0 v_0)
 | ((first | refine qr 14 [0,1,5,6,15,16,74] ?_ | refine qr 9 [6,7,8] ?_ | refine qr 8 [6,11] ?_ | refine qr 12 [6,7,8] ?_ | refine qr 11 [6,13] ?_ | refine qr 10 [0,1,5,6,9,50] ?_ | refine qr 7 [0,1,5,6,9,38,39] ?_ | refine qr 6 [0,1,5,6,9,38] ?_ | refine qr 4 [6,7,8] ?_ | refine qr 3 [0,1,5,6,30] ?_ | refine qr 2 [6,7,8] ?_ | refine qr 1 [0,1,5,6,26] ?_); intro V_1 v_1)
 | (refine ZM ?_; intro K hK)
 | (refine ZN ?_; intro all hall K hK)
 | (refine Da (id := 11) ?_ ?_; kernel_rfl; intro all hall K hK)
 | (refine ZO ?_ ?_; kernel_rfl; intro all hall K hK)
 | (refine ZQ ?_ ?_)
 | (refine ZK ?_; kernel_rfl)
 | (refine Zg ?_; simp only [↓reduceIte, Nat.reduceEqDiff])
 | refine ZS ?_ | refine ZT ?_ | refine ZU ?_ | refine ZV ?_ | refine ZW ?_ | refine ZX ?_ | refine Ze ?_ | refine Zf ?_)
  all_goals try clear v_1 V_1
  all_goals try clear v_0 V_0
  all_goals (try simp only [inR])
  all_goals first
    | omega
    | exact ⟨⟨ga, gl⟩, ⟨Ml _, len4 (Nat.pow_lt_pow_right (by decide) (by omega))⟩, Nat.pow_le_pow_right (by decide) (by omega)⟩
    | exact ⟨hn, ⟨Wl _ _, Wl _ _, Wl _ _, Wl _ _⟩, hPD⟩
    | exact ⟨hn, inf_isD n⟩
    | exact ⟨ga, by omega⟩
    | exact ⟨hn, hr, ⟨Ml _, by omega⟩, lim_1⟩
    | (rw [(rnd_zero (y := 1) hz).1, (rnd_zero (y := 1) hz).2, (rnd_zero (y := 10 ^ (-E).toNat) (show dv l * 10 ^ E.toNat = 0 by rw [hz, Nat.zero_mul])).1, (rnd_zero (y := 10 ^ (-E).toNat) (show dv l * 10 ^ E.toNat = 0 by rw [hz, Nat.zero_mul])).2]; exact ⟨rfl, rfl⟩)
    | exact ⟨⟨Ml _, by omega⟩, lim_1⟩
    | exact ⟨hn, hr, ⟨Ml _, by omega⟩, ⟨Ml _, by omega⟩, hz0⟩
    | (simp only [w4_0]; done)
    | exact rfl
    | skip
theorem sound_35 : Sound Tryz.prog 35 .body (norm s35) := by
  refine sb Tryz.func35 rfl (by kernel_rfl) G35_ok (by kernel_rfl) fun ds p r hs hp => ?_
  unfold s35 at hs
  split at hs
  · cases hs; exact ⟨Nat.le_of_ble_eq_true (by kernel_rfl), wk35 _ _ _ _ _ _ _ hp⟩
  · cases hs
noncomputable def s8 : Cs := fun ds => match ds with
  | [.v (.int .i64 n), .v (.int .i64 r), .v (.agg ⟨[.int .i64 cl, .bool sg, .bool si, .string D, .int .i64 ex]⟩)] => some (-9223372036854775808 ≤ ex ∧ ex ≤ 9223372036854775807, .one (.v (.bool true)))
  | _ => none
noncomputable def G8 : Gam := [(31, .body, norm s31), (34, .body, norm s34), (35, .body, norm s35)]
theorem G8_ok : Gk Tryz.prog G8 := Gc sound_31 (Gc sound_34 (Gc sound_35 Gn))
theorem k8_31 : lk G8 31 = some (.body, norm s31) := rfl
theorem k8_34 : lk G8 34 = some (.body, norm s34) := rfl
theorem k8_35 : lk G8 35 = some (.body, norm s35) := rfl
theorem wk8 (n : Int) (r : Int) (cl : Int) (sg : Bool) (si : Bool) (D : ByteArray) (ex : Int) (hp : -9223372036854775808 ≤ ex ∧ ex ≤ 9223372036854775807) : awp ty G8 (code Tryz.f8) (retP ty Tryz.f8.results.toList (.one (.v (.bool true)))) (entry 0 [.v (.int .i64 n), .v (.int .i64 r), .v (.agg #[.int .i64 cl, .bool sg, .bool si, .string D, .int .i64 ex])]) [] := by
  unfold code
  simp only [Tryz.f8, Option.getD_some]
  obtain ⟨d, rfl⟩ : ∃ d, D = bs d := ⟨_, Bt D⟩
  all_goals repeat' (first
 | ((with_reducible first | (refine ZA ?_; intro X hX) | (show awp _ _ _ _ (Kp _ _) _) | refine ZD ?_ | refine ZE ?_ | refine ZF ?_ | ((show Bg _ _ _ _ _); simp only [hall]) | (refine ZR ?_ ?_ <;> intro hb <;> (try simp only [hb]) <;> have hq := hb <;> try simp only [HQ] at hq)) <;> try simp only [Go.AM.SS, Nat.reduceAdd, Nat.reduceMul, Nat.reduceSub, ↓reduceIte, Nat.reduceEqDiff, Nat.reduceLT, Nat.reduceLeDiff, reduceCtorEq, Int.reduceBEq, Int.reduceBNe, Nat.reduceBEq, Int.reduceEq, Int.reduceToNat, Int.reduceLE, Int.reduceLT, Nat.reduceDiv, Int.reduceAdd, Int.reduceSub, Int.reduceMul, Int.reduceNeg, Int.reduceGT, Int.reduceGE, Nat.reduceMod, k8_31, s31.eq_1, s31_eq, k8_34, s34.eq_1, s34_eq, k8_35, s35.eq_1, s35_eq, ty_3, ty_4, ty_9, ty_22, ty_24, ty_26, ty_42, ty_44, beq_self_eq_true, bs_lit, bs_app, Bz, bs_beq, Bi, Bd, Be, bt_bs, List.length_append, List.append_nil, List.nil_append, List.cons_append])
 | with_reducible first
 | (refine hX _ _ ?_; clear hX X)
 | (refine ZG ?_; try clear hall all)
 | (refine hK _ _ ?_; clear hK K)
 | refine ZL ?_
 | (refine v_0 _ _ ?_; try clear v_0 V_0)
 | (refine v_1 _ _ ?_; try clear v_1 V_1)
 | ((first | refine qr 5 [6] ?_ | refine qr 4 [7,8,9,10,11,12] ?_ | refine qr 3 [0,1,5,7,8,9] ?_ | refine Zh (a := .seq (.region 1 _ _) _) [0,1,5] ?_ | refine qr 0 [0,1,5] ?_); intro V_0 v_0)
 | ((first | refine qr 2 [6] ?_ | refine qr 1 [0,1,5,20] ?_); intro V_1 v_1)
 | (refine ZM ?_; intro K hK)
 | (refine ZN ?_; intro all hall K hK)
 | (refine ZQ ?_ ?_)
 | refine ZT ?_ | refine ZU ?_ | refine ZW ?_)
  all_goals try clear v_1 V_1
  all_goals try clear v_0 V_0
  all_goals (try simp only [inR])
  all_goals first
    | omega
    | skip
theorem sound_8 : Sound Tryz.prog 8 .body (norm s8) := by
  refine sb Tryz.func8 rfl (by kernel_rfl) G8_ok (by kernel_rfl) fun ds p r hs hp => ?_
  unfold s8 at hs
  split at hs
  · cases hs; exact ⟨Nat.le_of_ble_eq_true (by kernel_rfl), wk8 _ _ _ _ _ _ _ hp⟩
  · cases hs
end Go.Proofs.AMT
