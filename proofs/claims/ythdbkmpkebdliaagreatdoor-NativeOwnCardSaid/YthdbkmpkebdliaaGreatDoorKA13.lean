/- Part of the proof: own text. -/
import Derived.Test.YthdbkmpkebdliaaGreatDoorKA11
import Derived.Test.YthdbkmpkebdliaaGreatDoorKA12
set_option linter.all false
set_option maxHeartbeats 20000000
set_option maxRecDepth 20000
namespace Go.Proofs.AMT
open Go.AM Go.AM.LN
attribute [local congr] bindO_congr bindS_congr bindG_congr awpOps_congr aOne_congr awp_congr aCond_congr awpD_congr dOne_congr keysB_congr nOne_congr thenP_congr blockP_congr Chk_congr Brk_congr
noncomputable def s34 : Cs := fun ds => match ds with
  | [.v (.int .i64 n), .v (.int .i64 r), .v (.agg ⟨[.int .i64 cl, .bool sg, .bool si, .string D, .int .i64 ex]⟩)] => some (D.size ≤ 10000 ∧ -9223372036854775808 ≤ ex ∧ ex ≤ 9223372036854775807, .many [.v (.agg #[.int .u64 (w4 (mkV n r cl sg si D.data.toList ex) 0), .int .u64 (w4 (mkV n r cl sg si D.data.toList ex) 1), .int .u64 (w4 (mkV n r cl sg si D.data.toList ex) 2), .int .u64 (w4 (mkV n r cl sg si D.data.toList ex) 3)]), .v (.int .i64 (mkF n r cl sg si D.data.toList ex)), .v (.int .i64 (mkE n r cl sg si D.data.toList ex))])
  | _ => none
theorem s34_eq (n : Int) (r : Int) (cl : Int) (sg : Bool) (si : Bool) (D : ByteArray) (ex : Int) : norm s34 [.v (.int .i64 n), .v (.int .i64 r), .v (.agg #[.int .i64 cl, .bool sg, .bool si, .string D, .int .i64 ex])] = s34 [.v (.int .i64 n), .v (.int .i64 r), .v (.agg #[.int .i64 cl, .bool sg, .bool si, .string D, .int .i64 ex])] := rfl
noncomputable def G34 : Gam := [(71, .body, norm s71), (91, .body, norm s91), (92, .body, norm s92), (95, .body, norm s95), (96, .body, norm s96), (97, .body, norm s97), (98, .body, norm s98), (99, .body, norm s99), (100, .body, norm s100), (101, .body, norm s101)]
theorem G34_ok : Gk Tryz.prog G34 := Gc sound_71 (Gc sound_91 (Gc sound_92 (Gc sound_95 (Gc sound_96 (Gc sound_97 (Gc sound_98 (Gc sound_99 (Gc sound_100 (Gc sound_101 Gn)))))))))
theorem k34_71 : lk G34 71 = some (.body, norm s71) := rfl
theorem k34_91 : lk G34 91 = some (.body, norm s91) := rfl
theorem k34_92 : lk G34 92 = some (.body, norm s92) := rfl
theorem k34_95 : lk G34 95 = some (.body, norm s95) := rfl
theorem k34_96 : lk G34 96 = some (.body, norm s96) := rfl
theorem k34_97 : lk G34 97 = some (.body, norm s97) := rfl
theorem k34_98 : lk G34 98 = some (.body, norm s98) := rfl
theorem k34_99 : lk G34 99 = some (.body, norm s99) := rfl
theorem k34_100 : lk G34 100 = some (.body, norm s100) := rfl
theorem k34_101 : lk G34 101 = some (.body, norm s101) := rfl
theorem wk34 (n : Int) (r : Int) (cl : Int) (sg : Bool) (si : Bool) (D : ByteArray) (ex : Int) (hp : D.size ≤ 10000 ∧ -9223372036854775808 ≤ ex ∧ ex ≤ 9223372036854775807) : awp ty G34 (code Tryz.f34) (retP ty Tryz.f34.results.toList (.many [.v (.agg #[.int .u64 (w4 (mkV n r cl sg si D.data.toList ex) 0), .int .u64 (w4 (mkV n r cl sg si D.data.toList ex) 1), .int .u64 (w4 (mkV n r cl sg si D.data.toList ex) 2), .int .u64 (w4 (mkV n r cl sg si D.data.toList ex) 3)]), .v (.int .i64 (mkF n r cl sg si D.data.toList ex)), .v (.int .i64 (mkE n r cl sg si D.data.toList ex))])) (entry 0 [.v (.int .i64 n), .v (.int .i64 r), .v (.agg #[.int .i64 cl, .bool sg, .bool si, .string D, .int .i64 ex])]) [] := by
  unfold code
  simp only [Tryz.f34, Option.getD_some]
  obtain ⟨l, rfl⟩ : ∃ l, D = bs l := ⟨_, Bt D⟩
  rw [Bz] at hp
  rw [Bd]
  have hV0 : V4 0 0 0 0 = 0 := rfl
  have hO := okB0 n
  have e48 := dv_0 l
  have i2 : (2 : Int).toNat = 2 := rfl
  obtain ⟨E, hE⟩ : ∃ E, min (max ex (-11000)) 11000 = E := ⟨_, rfl⟩
  have hcE : clE 11000 ex = E := hE
  have hEb : -11000 ≤ E ∧ E ≤ 11000 := by omega
  have hc : ¬ (1 ≤ n ∧ n ≤ 6) ∨ ((1 ≤ n ∧ n ≤ 6) ∧ ¬ (0 ≤ r ∧ r ≤ 4)) ∨ ((1 ≤ n ∧ n ≤ 6) ∧ 0 ≤ r ∧ r ≤ 4) := by omega
  rcases hc with hn | ⟨hn, hr⟩ | ⟨hn, hr⟩
  case' inl =>
    rw [(mk_no (okR_n hn)).1, (mk_no (okR_n hn)).2.1, (mk_no (okR_n hn)).2.2]
    rw [decide_eq_false hn] at hO
    have h12 : (1 ≤ n ∧ n ≤ 12) ∨ ¬ (1 ≤ n ∧ n ≤ 12) := by omega
    rcases h12 with h12 | h12
    all_goals first
      | have hI := infoV_in h12
      | have hI := infoV_out h12
    all_goals have gR : decide ((4 : Int) ≥ 5) = false := rfl
    all_goals have hG : decide ((4 : Int) ≥ 5) = false := rfl
    all_goals have g0 : decide ((4 : Int) ≥ 5) = false := rfl
    all_goals have hP : decide ((4 : Int) ≥ 5) = false := rfl
  case' inr.inl =>
    rw [(mk_no (okR_d hr)).1, (mk_no (okR_d hr)).2.1, (mk_no (okR_d hr)).2.2]
    rw [decide_eq_true hn] at hO
    have gR : (decide (r ≥ 0) && decide (r ≤ 4)) = false := by
      rw [Bool.and_eq_false_iff, decide_eq_false_iff_not, decide_eq_false_iff_not]; omega
    have hI := infoV_in (n := n) (by omega)
    have hG : decide ((4 : Int) ≥ 5) = false := rfl
    have g0 : decide ((4 : Int) ≥ 5) = false := rfl
    have hP : decide ((4 : Int) ≥ 5) = false := rfl
  case' inr.inr =>
    have hR := okR_y hn hr
    rw [decide_eq_true hn] at hO
    have gR : (decide (r ≥ 0) && decide (r ≤ 4)) = true := by rw [decide_eq_true (by omega : r ≥ 0), decide_eq_true (by omega : r ≤ 4)]; rfl
    have hI := infoV_in (n := n) (by omega)
    obtain ⟨F1, F2, F3, F4, F5, F6, F7, F8, F9, F10, F11⟩ := bfmt hn
    rcases Bool.eq_false_or_eq_true (gGood cl sg si l ex) with hG | hG
    case' inr =>
      rw [(mk_bad hR hG).1, (mk_bad hR hG).2.1, (mk_bad hR hG).2.2]
      have g0 : decide ((4 : Int) ≥ 5) = false := rfl
      have hP : decide ((4 : Int) ≥ 5) = false := rfl
    case' inl =>
      obtain ⟨gl, gc, ga⟩ := good_len hG
      have hL := dv_len3 ga
      rw [mk_ok hR hG]
      rcases gc with rfl | rfl | rfl
      case' inl =>
        rw [(mk_1 hR hG).1, (mk_1 hR hG).2]
        unfold tenX tenY
        rw [hcE]
        have q1 := round_yes hR sg (dv l * 10 ^ E.toNat) (10 ^ (-E).toNat) 0
        have q0 := round_yes hR sg (dv l) 1 0
        have hM := dv_mul_len ga E.toNat
        have hN := pow10_len (-E).toNat
        have hz0 : 10 ^ (-E).toNat ≠ 0 := Nat.pos_iff_ne_zero.1 (Nat.pow_pos (by decide))
        have hP : decide ((4 : Int) ≥ 5) = false := rfl
        rcases Nat.eq_zero_or_pos (dv l) with hz | hz
        all_goals first
          | (have g0 : decide (((limbs (dv l)).length : Int) > 0) = false := by rw [hz]; rfl)
          | (have g0 : decide (((limbs (dv l)).length : Int) > 0) = true := by
               have := (not_congr (len_zero (x := dv l))).2 (by omega)
               rw [decide_eq_true]; omega)
      case' inr.inl =>
        obtain ⟨rfl, rfl, rfl⟩ := good_2 hG
        rw [(mk_2 hR hG).1, (mk_2 hR hG).2]
        have g0 : decide ((4 : Int) ≥ 5) = false := rfl
        have hP : decide ((4 : Int) ≥ 5) = false := rfl
      case' inr.inr =>
        obtain rfl := good_3 hG
        rw [(mk_3 hR hG).1, (mk_3 hR hG).2]
        have hP := V4_w4 (payV_lt (q := si) (x := dv l) (B := 2 ^ (fl n).toNat) (Nat.pow_le_pow_right (by decide) (by omega)))
        have hPD := pay_isD (q := si) hn (dv l)
        have g0 : decide ((4 : Int) ≥ 5) = false := rfl
  all_goals repeat' (first
 | ((with_reducible first | (refine ZA ?_; intro X hX) | (show awp _ _ _ _ (Kp _ _) _) | refine ZD ?_ | refine ZE ?_ | refine ZF ?_ | ((show Bg _ _ _ _ _); simp only [hall]) | (refine ZR ?_ ?_ <;> intro hb <;> (try simp only [hb]) <;> have hq := hb <;> try simp only [HQ] at hq)) <;> try simp only [Go.AM.SS, Nat.reduceAdd, Nat.reduceMul, Nat.reduceSub, ↓reduceIte, Nat.reduceEqDiff, Nat.reduceLT, Nat.reduceLeDiff, reduceCtorEq, Int.reduceBEq, Int.reduceBNe, Nat.reduceBEq, Int.reduceEq, Int.reduceToNat, Int.reduceLE, Int.reduceLT, Nat.reduceDiv, Int.reduceAdd, Int.reduceSub, Int.reduceMul, Int.reduceNeg, Int.reduceGT, Int.reduceGE, Nat.reduceMod, k34_71, s71.eq_1, s71_eq, k34_91, s91.eq_1, s91_eq, k34_92, s92.eq_1, s92_eq, k34_95, s95.eq_1, s95_eq, k34_96, s96.eq_1, s96_eq, k34_97, s97.eq_1, s97_eq, k34_98, s98.eq_1, s98_eq, s98_nil1, k34_99, s99.eq_1, s99_eq, s99_nil1, s99_nil2, s99_nil3, k34_100, s100.eq_1, s100_eq, k34_101, s101.eq_1, s101_eq, s101_nil1, ty_3, ty_4, ty_9, ty_22, ty_24, ty_26, ty_33, ty_44, ty_50, ty_95, bs_lit, bs_app, Bz, bs_beq, Bi, Bd, Be, bt_bs, List.length_append, List.append_nil, List.nil_append, List.cons_append, hV0, hO, hI, infoT, infoZ, gR, hG, g0, e48, i2, hE, hP, toInts, Vl, limbs_getD, Bool.false_eq_true])
 | with_reducible first
 | (refine hX _ _ ?_; clear hX X)
 | (refine ZG ?_; try clear hall all)
 | (refine hK _ _ ?_; clear hK K)
 | refine ZL ?_
 | (refine v_0 _ _ ?_; try clear v_0 V_0)
 | (refine v_1 _ _ ?_; try clear v_1 V_1)
 | (refine v_2 _ _ ?_; try clear v_2 V_2)
 | ((first | refine qr 19 [6,7,8] ?_ | refine qr 18 [6,19,20] ?_ | refine Zh (a := .seq (.region 8 _ _) _) [0,6,13] ?_ | refine qr 7 [0,1,5,6,9,13] ?_ | refine Zh (a := .seq (.region 4 _ _) _) [0,1,5,6,9] ?_ | refine Zh (a := .seq (.region 2 _ _) _) [0,1,5,6,9] ?_ | refine qr 1 [0,1,5,6,9,10] ?_ | refine qr 0 [0,1,5,6] ?_); intro V_0 v_0)
 | ((first | refine qr 14 [6,7,8] ?_ | refine Zh (a := .seq (.region 12 _ _) _) [0,1,5,6,14,16] ?_ | refine qr 11 [0,1,5,6,14,16] ?_ | refine qr 10 [0,1,5,6,14] ?_ | refine qr 16 [0,5,6,13,17] ?_ | refine qr 15 [0,5,6,9,13,84] ?_ | refine qr 9 [0,1,5,6,9,13,51,52] ?_ | refine qr 8 [0,1,5,6,9,13,51] ?_ | refine qr 6 [6,7,8] ?_ | refine qr 5 [0,1,5,6,9,41] ?_ | refine qr 4 [0,1,5,6,9,12] ?_ | refine qr 3 [6,7,8] ?_ | refine qr 2 [0,1,5,6,9,33] ?_); intro V_1 v_1)
 | ((first | refine qr 12 [0,1,5,6,14,16,64] ?_); intro V_2 v_2)
 | (refine ZM ?_; intro K hK)
 | (refine ZN ?_; intro all hall K hK)
 | (refine ZQ ?_ ?_)
 | (refine Zg ?_; simp only [↓reduceIte, Nat.reduceEqDiff])
 | refine ZS ?_ | refine ZT ?_ | refine ZU ?_ | refine ZV ?_ | refine ZW ?_ | refine ZX ?_ | refine Ze ?_ | refine Zf ?_)
  all_goals try clear v_2 V_2
  all_goals try clear v_1 V_1
  all_goals try clear v_0 V_0
  all_goals (try simp only [inR])
  all_goals first
    | omega
    | exact ⟨⟨ga, gl⟩, ⟨Ml _, len4 (Nat.pow_lt_pow_right (by decide) (by omega))⟩, Nat.pow_le_pow_right (by decide) (by omega)⟩
    | exact ⟨hn, ⟨Wl _ _, Wl _ _, Wl _ _, Wl _ _⟩, hPD⟩
    | exact ⟨hn, inf_isD n⟩
    | exact ⟨by rw [List.all_cons, ga]; rfl, by omega⟩
    | exact ⟨⟨Ml _, by omega⟩, ⟨Ml _, by decide +kernel⟩, by rw [sz_limbs]; omega, by rw [sz_limbs]; decide +kernel⟩
    | (rw [q0.1, q0.2.1, q0.2.2, (rnd_zero (y := 1) hz).1, (rnd_zero (y := 1) hz).2, (rnd_zero (y := 10 ^ (-E).toNat) (show dv l * 10 ^ E.toNat = 0 by rw [hz, Nat.zero_mul])).1, (rnd_zero (y := 10 ^ (-E).toNat) (show dv l * 10 ^ E.toNat = 0 by rw [hz, Nat.zero_mul])).2]; exact ⟨rfl, rfl, rfl⟩)
    | exact ⟨⟨Ml _, by omega⟩, by omega, by omega⟩
    | exact ⟨⟨Ml _, by omega⟩, ⟨Ml _, by omega⟩, hz0, by rw [sz_limbs]; omega, by rw [sz_limbs]; omega⟩
    | (rw [q1.1, q1.2.1, q1.2.2]; exact ⟨rfl, rfl, rfl⟩)
    | (simp only [wk40]; done)
    | skip
theorem sound_34 : Sound Tryz.prog 34 .body (norm s34) := by
  refine sb Tryz.func34 rfl (by kernel_rfl) G34_ok (by kernel_rfl) fun ds p r hs hp => ?_
  unfold s34 at hs
  split at hs
  · cases hs; exact ⟨Nat.le_of_ble_eq_true (by kernel_rfl), wk34 _ _ _ _ _ _ _ hp⟩
  · cases hs
end Go.Proofs.AMT
