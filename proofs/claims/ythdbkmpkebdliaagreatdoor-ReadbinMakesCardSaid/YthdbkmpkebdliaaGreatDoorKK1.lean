/- Part of the proof: own text. -/
import Derived.Test.YthdbkmpkebdliaaGreatDoorKK0
set_option linter.all false
set_option maxHeartbeats 20000000
set_option maxRecDepth 20000
namespace Go.Proofs.AMT
open Go.AM Go.AM.LN
attribute [local congr] bindO_congr bindS_congr bindG_congr awpOps_congr aOne_congr awp_congr aCond_congr awpD_congr dOne_congr keysB_congr nOne_congr thenP_congr blockP_congr Chk_congr Brk_congr
noncomputable def s104 : Cs := fun ds => match ds with
  | [.v (.int .i64 n), .v (.int .i64 d), .v (.bool s), .sl .u64 a, .sl .u64 b, .v (.int .i64 e)] => some ((1 ≤ n ∧ n ≤ 6) ∧ (0 ≤ d ∧ d ≤ 4) ∧ (lim a ∧ limbs (val a) = a ∧ a.length ≤ 900) ∧ (lim b ∧ limbs (val b) = b ∧ b.length ≤ 900) ∧ val b ≠ 0, .many [.v (.agg #[.int .u64 (w4 (rndV n d s (val a) (val b) e) 0), .int .u64 (w4 (rndV n d s (val a) (val b) e) 1), .int .u64 (w4 (rndV n d s (val a) (val b) e) 2), .int .u64 (w4 (rndV n d s (val a) (val b) e) 3)]), .v (.int .i64 (rndF n d s (val a) (val b) e))])
  | _ => none
theorem s104_eq (n : Int) (d : Int) (s : Bool) (a : List Int) (b : List Int) (e : Int) : norm s104 [.v (.int .i64 n), .v (.int .i64 d), .v (.bool s), .sl .u64 a, .sl .u64 b, .v (.int .i64 e)] = s104 [.v (.int .i64 n), .v (.int .i64 d), .v (.bool s), .sl .u64 a, .sl .u64 b, .v (.int .i64 e)] := rfl
theorem s104_nil1 (n : Int) (d : Int) (s : Bool)  (b : List Int) (e : Int) : norm s104 [.v (.int .i64 n), .v (.int .i64 d), .v (.bool s), .v (.slice none 0 0), .sl .u64 b, .v (.int .i64 e)] = s104 [.v (.int .i64 n), .v (.int .i64 d), .v (.bool s), .sl .u64 [], .sl .u64 b, .v (.int .i64 e)] := rfl
theorem s104_nil2 (n : Int) (d : Int) (s : Bool) (a : List Int)  (e : Int) : norm s104 [.v (.int .i64 n), .v (.int .i64 d), .v (.bool s), .sl .u64 a, .v (.slice none 0 0), .v (.int .i64 e)] = s104 [.v (.int .i64 n), .v (.int .i64 d), .v (.bool s), .sl .u64 a, .sl .u64 [], .v (.int .i64 e)] := rfl
theorem s104_nil3 (n : Int) (d : Int) (s : Bool)   (e : Int) : norm s104 [.v (.int .i64 n), .v (.int .i64 d), .v (.bool s), .v (.slice none 0 0), .v (.slice none 0 0), .v (.int .i64 e)] = s104 [.v (.int .i64 n), .v (.int .i64 d), .v (.bool s), .sl .u64 [], .sl .u64 [], .v (.int .i64 e)] := rfl
noncomputable def G104 : Gam := [(30, .body, norm s30), (46, .body, norm s46), (47, .body, norm s47), (48, .body, norm s48), (69, .body, norm s69), (81, .body, norm s81), (172, .body, norm s172), (173, .body, norm s173), (174, .body, norm s174), (175, .body, norm s175)]
theorem G104_ok : Gk Tryz.prog G104 := Gc sound_30 (Gc sound_46 (Gc sound_47 (Gc sound_48 (Gc sound_69 (Gc sound_81 (Gc sound_172 (Gc sound_173 (Gc sound_174 (Gc sound_175 Gn)))))))))
theorem k104_30 : lk G104 30 = some (.body, norm s30) := rfl
theorem k104_46 : lk G104 46 = some (.body, norm s46) := rfl
theorem k104_47 : lk G104 47 = some (.body, norm s47) := rfl
theorem k104_48 : lk G104 48 = some (.body, norm s48) := rfl
theorem k104_69 : lk G104 69 = some (.body, norm s69) := rfl
theorem k104_81 : lk G104 81 = some (.body, norm s81) := rfl
theorem k104_172 : lk G104 172 = some (.body, norm s172) := rfl
theorem k104_173 : lk G104 173 = some (.body, norm s173) := rfl
theorem k104_174 : lk G104 174 = some (.body, norm s174) := rfl
theorem k104_175 : lk G104 175 = some (.body, norm s175) := rfl
theorem wk104 (n : Int) (d : Int) (s : Bool) (a : List Int) (b : List Int) (e : Int) (hp : (1 ≤ n ∧ n ≤ 6) ∧ (0 ≤ d ∧ d ≤ 4) ∧ (lim a ∧ limbs (val a) = a ∧ a.length ≤ 900) ∧ (lim b ∧ limbs (val b) = b ∧ b.length ≤ 900) ∧ val b ≠ 0) : awp ty G104 (code Tryz.f104) (retP ty Tryz.f104.results.toList (.many [.v (.agg #[.int .u64 (w4 (rndV n d s (val a) (val b) e) 0), .int .u64 (w4 (rndV n d s (val a) (val b) e) 1), .int .u64 (w4 (rndV n d s (val a) (val b) e) 2), .int .u64 (w4 (rndV n d s (val a) (val b) e) 3)]), .v (.int .i64 (rndF n d s (val a) (val b) e))])) (entry 0 [.v (.int .i64 n), .v (.int .i64 d), .v (.bool s), .sl .u64 a, .sl .u64 b, .v (.int .i64 e)]) [] := by
  unfold code
  simp only [Tryz.f104, Option.getD_some]
  obtain ⟨hn, hd, la, lb, hy0⟩ := hp
  have bx := blen_val la.1
  have b_y := blen_val lb.1
  have i2 : (2 : Int).toNat = 2 := rfl
  generalize hx : val a = x at *
  generalize hy : val b = y at *
  have lx := congrArg List.length la.2.1
  have ly := congrArg List.length lb.2.1
  have zx := @len_zero x
  have hI := infoV_in (n := n) (by omega)
  obtain ⟨F1, F2, F3, F4, F5, F6, F7, F8, F9, F10, F11⟩ := bfmt hn
  have hV0 : V4 0 0 0 0 = 0 := rfl
  rcases Nat.eq_zero_or_pos x with hx0 | hx0
  all_goals first
    | (have gx0 : ((a.length : Int) == 0) = true := by simp only [beq_iff_eq]; omega)
    | (have gx0 : ((a.length : Int) == 0) = false := by simp only [beq_eq_false_iff_ne, ne_eq]; omega)
  case' inr =>
    obtain ⟨E, hE⟩ : ∃ E, scE 2 e = E := ⟨_, rfl⟩
    obtain ⟨L, hLL⟩ : ∃ L, lowR (x * 2 ^ E.toNat) (y * 2 ^ (-E).toNat) = L := ⟨_, rfl⟩
    obtain ⟨Q, hQQ⟩ : ∃ Q, max (2 - fe n - fp n) (L - fp n + 1) = Q := ⟨_, rfl⟩
    obtain ⟨KK, hKK⟩ : ∃ KK, scE 2 (-Q) = KK := ⟨_, rfl⟩
    obtain ⟨⟨c, ex⟩, hdv⟩ : ∃ D, divS d s (x * 2 ^ E.toNat * 2 ^ KK.toNat) (y * 2 ^ (-E).toNat * 2 ^ (-KK).toNat) = D := ⟨_, rfl⟩
    have hEb := scE_b 2 e
    rw [hE] at hEb
    have hKb := scE_b 2 (-Q)
    rw [hKK] at hKb
    have hLb := lowR_bound (x * 2 ^ E.toNat) (y * 2 ^ (-E).toNat)
    rw [hLL, blen_mul (by omega), blen_mul (by omega)] at hLb
    have hcb := @blen_divS d s (x * 2 ^ E.toNat * 2 ^ KK.toNat) (y * 2 ^ (-E).toNat * 2 ^ (-KK).toNat)
    rw [hdv, blen_mul (by have := Nat.two_pow_pos E.toNat; exact Nat.mul_ne_zero (by omega) (by omega)), blen_mul (by omega)] at hcb
    have hyE : y * 2 ^ (-E).toNat ≠ 0 := Nat.mul_ne_zero (by omega) (by have := Nat.two_pow_pos (-E).toNat; omega)
    have hyK : y * 2 ^ (-E).toNat * 2 ^ (-KK).toNat ≠ 0 := Nat.mul_ne_zero hyE (by have := Nat.two_pow_pos (-KK).toNat; omega)
    have l1 := len_b (@blen_pow_le x E.toNat)
    have l2 := len_b (@blen_pow_le y (-E).toNat)
    have l3 := len_b (Nat.le_of_eq (blen_mul (n := x * 2 ^ E.toNat) (Nat.mul_ne_zero (by omega) (by have := Nat.two_pow_pos E.toNat; omega)) KK.toNat))
    have l4 := len_b (Nat.le_of_eq (blen_mul hyE (-KK).toNat))
    rw [blen_mul (by omega)] at l3 l4
    dsimp only at hcb
    have lc := len_b hcb
    have hway := ref_way (d := d) (s := s) (e := e) hn hx0 (Nat.pos_of_ne_zero hy0) (by omega) (by omega) hE.symm hLL.symm hQQ.symm hKK.symm
    have rqb := @rq_b n x y e
    rcases hway with ⟨w1, w2, w3⟩ | ⟨w1, w2, w3, w4', w5, hO⟩
  case' inr.inr =>
    rw [← w4', hdv] at hO
    have hD : rdiv n d s x y e = (c, ex) := w4'.symm.trans hdv
    have hpw : 2 ^ (fp n).toNat ≤ 2 ^ 241 := Nat.pow_le_pow_right (by omega) (by omega)
    have hpw1 : 2 ^ (fp n - 1).toNat ≤ 2 ^ 241 := Nat.pow_le_pow_right (by omega) (by omega)
    have hcl : c < 2 ^ 256 := by
      have h241 : (2 : Nat) ^ 241 < 2 ^ 256 := by decide
      rcases hO with ⟨_, _, h3⟩ | ⟨_, h3⟩
      · exact Nat.lt_of_le_of_lt (Nat.le_trans h3 hpw) h241
      · exact Nat.lt_of_le_of_lt (Nat.le_trans h3 hpw1) h241
  all_goals first
    | (have hV4 := V4_w4 hcl)
    | (have hV4 : decide ((4 : Int) ≥ 5) = false := rfl)
  all_goals first
    | (have hV5 := V4_w4 (Nat.lt_of_le_of_lt (Nat.div_le_self c 2) hcl))
    | (have hV5 : decide ((4 : Int) ≥ 5) = false := rfl)
  all_goals first
    | (have _h := hdv)
    | (have hE : decide ((4 : Int) ≥ 5) = false := rfl
       have hLL : decide ((4 : Int) ≥ 5) = false := rfl
       have hQQ : decide ((4 : Int) ≥ 5) = false := rfl
       have hKK : decide ((4 : Int) ≥ 5) = false := rfl
       have hdv : decide ((4 : Int) ≥ 5) = false := rfl)
  all_goals repeat' (first
 | ((with_reducible first | (refine ZA ?_; intro X hX) | (refine ZB ?_; intro X hX) | (show awp _ _ _ _ (Kp _ _) _) | refine ZD ?_ | refine ZE ?_ | refine ZF ?_ | ((show Bg _ _ _ _ _); simp only [hall]) | (refine ZR ?_ ?_ <;> intro hb <;> (try simp only [hb]) <;> have hq := hb <;> try simp only [HQ] at hq)) <;> try simp only [Go.AM.SS, Nat.reduceAdd, Nat.reduceMul, Nat.reduceSub, ↓reduceIte, Nat.reduceEqDiff, Nat.reduceLT, Nat.reduceLeDiff, reduceCtorEq, Int.reduceBEq, Int.reduceBNe, Nat.reduceBEq, Int.reduceEq, Int.reduceToNat, Int.reduceLE, Int.reduceLT, Nat.reduceDiv, Int.reduceAdd, Int.reduceSub, Int.reduceMul, Int.reduceNeg, Int.reduceGT, Int.reduceGE, Nat.reduceMod, k104_30, s30.eq_1, s30_eq, k104_46, s46.eq_1, s46_eq, k104_47, s47.eq_1, s47_eq, s47_nil1, k104_48, s48.eq_1, s48_eq, s48_nil1, k104_69, s69.eq_1, s69_eq, s69_nil1, k104_81, s81.eq_1, s81_eq, s81_nil1, s81_nil2, s81_nil3, k104_172, s172.eq_1, s172_eq, s172_nil1, s172_nil2, s172_nil3, k104_173, s173.eq_1, s173_eq, s173_nil1, s173_nil2, s173_nil3, k104_174, s174.eq_1, s174_eq, k104_175, s175.eq_1, s175_eq, ty_3, ty_4, ty_9, ty_22, ty_24, ty_33, ty_50, ty_62, hx, hy, hI, infoT, Vl, limbs_getD, gx0, i2, hE, hLL, hQQ, hKK, hdv, hV0, hV4, hV5, Int.zero_sub, Int.toNat_one, Nat.pow_one])
 | with_reducible first
 | (refine hX _ _ ?_; clear hX X)
 | (refine ZG ?_; try clear hall all)
 | (refine ZH ?_; try clear hall all)
 | (refine hK _ _ ?_; clear hK K)
 | refine ZL ?_
 | (refine v_0 _ _ ?_; try clear v_0 V_0)
 | (refine v_1 _ _ ?_; try clear v_1 V_1)
 | (refine v_2 _ _ ?_; try clear v_2 V_2)
 | ((first | refine qr 23 [12,13] ?_ | refine qb 0 [12,26] ?_ | refine qr 18 [12,14,18,23,26] ?_ | refine Zh (a := .seq (.region 13 _ _) _) [0,2,12,14,18,19,22,23] ?_ | refine Zh (a := .seq (.region 10 _ _) _) [0,1,2,12,14,18,19,22,23] ?_ | refine qr 9 [0,1,2,12,14,18,19,22,23] ?_ | refine qr 8 [0,1,2,12,14,18,19,20,21] ?_ | refine qr 7 [0,1,2,3,4,12,14,18,19] ?_ | refine qr 6 [0,1,2,3,4,12,14,18] ?_ | refine qr 5 [0,1,2,3,4,12,14] ?_ | refine Zh (a := .seq (.region 2 _ _) _) [0,1,2,3,4,5,12,14] ?_ | refine qr 1 [0,1,2,3,4,5,12,14] ?_ | refine qr 0 [0,1,2,3,4,5,12] ?_); intro V_0 v_0)
 | ((first | refine qr 20 [12,13] ?_ | refine qr 22 [12,13] ?_ | refine qr 21 [12,26,126] ?_ | refine qr 19 [12,14,18,26,123] ?_ | refine qr 17 [12,13] ?_ | refine Zh (a := .seq (.region 15 _ _) _) [12,24] ?_ | refine qr 14 [0,1,2,12,24] ?_ | refine qr 13 [0,1,2,12,14,18,19,22,23,95] ?_ | refine qr 11 [0,1,2,12,14,18,19,22,23] ?_ | refine qr 10 [0,1,2,12,14,18,19,22,23,84] ?_ | refine qr 4 [12,13] ?_ | refine qr 3 [12,16] ?_ | refine qr 2 [0,1,2,3,4,5,12,14,35] ?_); intro V_1 v_1)
 | ((first | refine qr 15 [0,2,12,24,104] ?_); intro V_2 v_2)
 | (refine ZM ?_; intro K hK)
 | (refine ZN ?_; intro all hall K hK)
 | (refine ZO ?_ ?_; kernel_rfl; intro all hall K hK)
 | (refine ZQ ?_ ?_)
 | (refine ZK ?_; kernel_rfl)
 | (refine Zg ?_; simp only [↓reduceIte, Nat.reduceEqDiff])
 | refine ZS ?_ | refine ZT ?_ | refine ZU ?_ | refine ZV ?_ | refine ZW ?_ | refine ZX ?_ | refine Ze ?_ | refine Zf ?_)
  all_goals try clear v_2 V_2
  all_goals try clear v_1 V_1
  all_goals try clear v_0 V_0
  all_goals clear hV4 hV5
  all_goals (try simp only [inR])
  all_goals (try (have hx1 : x ≠ 0 := by omega))
  all_goals first
    | omega
    | exact ⟨⟨la.1, la.2.1, by omega⟩, lb.1, lb.2.1, by omega⟩
    | exact ⟨⟨Ml _, by omega⟩, Ml _, by omega⟩
    | exact ⟨⟨Ml _, by omega⟩, ⟨Ml _, by omega⟩, hyK⟩
    | exact ⟨Ml _, by omega⟩
    | exact ⟨hn, .inr (.inl ⟨rfl, rfl, rfl, rfl⟩)⟩
    | exact ⟨hn, .inl ⟨rfl, rfl, by omega, by omega, .inr ⟨by show ((0 : Nat) : Int) < _; omega, rfl⟩⟩⟩
    | (rw [(rnd_zero (n := n) (d := d) (s := s) (e := e) (y := y) hx0).1, (rnd_zero (n := n) (d := d) (s := s) (e := e) (y := y) hx0).2]; exact ⟨rfl, rfl⟩)
    | (have vv := rnd_ovA (n := n) (d := d) (s := s) hx1 w3
       rw [vv.1, vv.2]
       first
         | (rw [ov_t hq]; exact ⟨rfl, rfl⟩)
         | (rw [ov_f hq]; exact ⟨rfl, rfl⟩))
    | (rw [w1]; exact ⟨hn, ⟨Wl _ _, Wl _ _, Wl _ _, Wl _ _⟩, rnd_isD1 F1 hO rqb.1 (by omega) (by omega)⟩)
    | (rw [w1]; exact ⟨hn, ⟨Wl _ _, Wl _ _, Wl _ _, Wl _ _⟩, rnd_isD0 F1 hO rqb.1 (by omega) (by omega)⟩)
    | (have vv := rnd_ov1 hx1 hD (by omega) (by omega)
       rw [vv.1, vv.2]
       first
         | (rw [ov_t hq]; exact ⟨rfl, rfl⟩)
         | (rw [ov_f hq]; exact ⟨rfl, rfl⟩))
    | (have vv := rnd_ov0 hx1 hD (by omega) (by omega)
       rw [vv.1, vv.2]
       first
         | (rw [ov_t hq]; exact ⟨rfl, rfl⟩)
         | (rw [ov_f hq]; exact ⟨rfl, rfl⟩))
    | (have v1 := rnd_num1 hx1 hD (by omega) (by omega)
       have ff := rnd_f hx1 hD (.inl ⟨by omega, by omega⟩)
       rw [v1, w1]
       first
         | (rw [ff.1 (by simp_all)]; exact ⟨rfl, rfl⟩)
         | (rw [ff.2.1 (by simp_all) (by omega)]; exact ⟨rfl, rfl⟩)
         | (rw [ff.2.2 (by simp_all) (by omega)]; exact ⟨rfl, rfl⟩))
    | (have v1 := rnd_num0 hx1 hD (by omega) (by omega)
       have ff := rnd_f hx1 hD (.inr ⟨by omega, by omega⟩)
       rw [v1, w1]
       first
         | (rw [ff.1 (by simp_all)]; exact ⟨rfl, rfl⟩)
         | (rw [ff.2.1 (by simp_all) (by omega)]; exact ⟨rfl, rfl⟩)
         | (rw [ff.2.2 (by simp_all) (by omega)]; exact ⟨rfl, rfl⟩))
    | skip
theorem sound_104 : Sound Tryz.prog 104 .body (norm s104) := by
  refine sb Tryz.func104 rfl (by kernel_rfl) G104_ok (by kernel_rfl) fun ds p r hs hp => ?_
  unfold s104 at hs
  split at hs
  · cases hs; exact ⟨Nat.le_of_ble_eq_true (by kernel_rfl), wk104 _ _ _ _ _ _ hp⟩
  · cases hs
end Go.Proofs.AMT
