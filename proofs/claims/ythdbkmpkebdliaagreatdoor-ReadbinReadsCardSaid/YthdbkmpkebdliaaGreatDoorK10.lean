/- Part 10 of the proof: own text. -/
import Derived.Test.YthdbkmpkebdliaaGreatDoorK9
set_option linter.all false
set_option maxHeartbeats 20000000
set_option maxRecDepth 20000
namespace Go.Proofs.AMT
open Go.AM Go.AM.LN
attribute [local congr] bindO_congr bindS_congr bindG_congr awpOps_congr aOne_congr awp_congr aCond_congr awpD_congr dOne_congr keysB_congr nOne_congr thenP_congr blockP_congr Chk_congr Brk_congr
noncomputable def s104 : Cs := fun ds => match ds with
  | [.v (.int .i64 n), .v (.int .i64 d), .v (.bool s), .sl .u64 a, .sl .u64 b, .v (.int .i64 e)] => some ((1 ≤ n ∧ n ≤ 6) ∧ (0 ≤ d ∧ d ≤ 4) ∧ (lim a ∧ limbs (val a) = a ∧ a.length ≤ 900) ∧ (lim b ∧ limbs (val b) = b ∧ b.length ≤ 900) ∧ val b ≠ 0, .many [.v (.agg #[.int .u64 (w4 (rndV n d s (val a) (val b) e) 0), .int .u64 (w4 (rndV n d s (val a) (val b) e) 1), .int .u64 (w4 (rndV n d s (val a) (val b) e) 2), .int .u64 (w4 (rndV n d s (val a) (val b) e) 3)]), .v (.int .i64 (rndF n d s (val a) (val b) e))])
  | _ => none
theorem s104_eq (n : Int) (d : Int) (s : Bool) (a : List Int) (b : List Int) (e : Int) : norm s104 [.v (.int .i64 n), .v (.int .i64 d), .v (.bool s), .sl .u64 a, .sl .u64 b, .v (.int .i64 e)] = s104 [.v (.int .i64 n), .v (.int .i64 d), .v (.bool s), .sl .u64 a, .sl .u64 b, .v (.int .i64 e)] := rfl
theorem s104_nil1 (n : Int) (d : Int) (s : Bool)  (b : List Int) (e : Int) : norm s104 [.v (.int .i64 n), .v (.int .i64 d), .v (.bool s), .v (.slice none 0 0), .sl .u64 b, .v (.int .i64 e)] = s104 [.v (.int .i64 n), .v (.int .i64 d), .v (.bool s), .sl .u64 [], .sl .u64 b, .v (.int .i64 e)] := rfl
theorem s104_nil2 (n : Int) (d : Int) (s : Bool) (a : List Int)  (e : Int) : norm s104 [.v (.int .i64 n), .v (.int .i64 d), .v (.bool s), .sl .u64 a, .v (.slice none 0 0), .v (.int .i64 e)] = s104 [.v (.int .i64 n), .v (.int .i64 d), .v (.bool s), .sl .u64 a, .sl .u64 [], .v (.int .i64 e)] := rfl
theorem s104_nil3 (n : Int) (d : Int) (s : Bool)   (e : Int) : norm s104 [.v (.int .i64 n), .v (.int .i64 d), .v (.bool s), .v (.slice none 0 0), .v (.slice none 0 0), .v (.int .i64 e)] = s104 [.v (.int .i64 n), .v (.int .i64 d), .v (.bool s), .sl .u64 [], .sl .u64 [], .v (.int .i64 e)] := rfl
noncomputable def G104 : Gam := [(30, .body, norm s30), (46, .body, norm s46), (47, .body, norm s47), (48, .body, norm s48), (69, .body, norm s69), (81, .body, norm s81), (172, .body, norm s172), (173, .body, norm s173), (174, .body, norm s174), (175, .body, norm s175)]
theorem G104_ok : Gk Tryz.prog G104 := Gc sound_30 (Gc sound_46 (Gc sound_47 (Gc sound_48 (Gc sound_69 (Gc sound_81 (Gc sound_172 (Gc sound_173 (Gc sound_174 (Gc sound_175 Gn)))))))))
theorem k104_30 : lk G104 30 = some (.body, norm s30) := rfl
theorem k104_46 : lk G104 46 = some (.body, norm s46) := rfl
theorem k104_47 : lk G104 47 = some (.body, norm s47) := rfl
theorem k104_48 : lk G104 48 = some (.body, norm s48) := rfl
theorem k104_69 : lk G104 69 = some (.body, norm s69) := rfl
theorem k104_81 : lk G104 81 = some (.body, norm s81) := rfl
theorem k104_172 : lk G104 172 = some (.body, norm s172) := rfl
theorem k104_173 : lk G104 173 = some (.body, norm s173) := rfl
theorem k104_174 : lk G104 174 = some (.body, norm s174) := rfl
theorem k104_175 : lk G104 175 = some (.body, norm s175) := rfl
theorem wk104 (n : Int) (d : Int) (s : Bool) (a : List Int) (b : List Int) (e : Int) (hp : (1 ≤ n ∧ n ≤ 6) ∧ (0 ≤ d ∧ d ≤ 4) ∧ (lim a ∧ limbs (val a) = a ∧ a.length ≤ 900) ∧ (lim b ∧ limbs (val b) = b ∧ b.length ≤ 900) ∧ val b ≠ 0) : awp ty G104 (code Tryz.f104) (retP ty Tryz.f104.results.toList (.many [.v (.agg #[.int .u64 (w4 (rndV n d s (val a) (val b) e) 0), .int .u64 (w4 (rndV n d s (val a) (val b) e) 1), .int .u64 (w4 (rndV n d s (val a) (val b) e) 2), .int .u64 (w4 (rndV n d s (val a) (val b) e) 3)]), .v (.int .i64 (rndF n d s (val a) (val b) e))])) (entry 0 [.v (.int .i64 n), .v (.int .i64 d), .v (.bool s), .sl .u64 a, .sl .u64 b, .v (.int .i64 e)]) [] := by
  unfold code
  simp only [Tryz.f104, Option.getD_some]
  obtain ⟨hn, hd, la, lb, hy0⟩ := hp
  have bx := blen_val la.1
  have b_y := blen_val lb.1
  have i2 : (2 : Int).toNat = 2 := rfl
  generalize hx : val a = x at *
  generalize hy : val b = y at *
  have lx := congrArg List.length la.2.1
  have ly := congrArg List.length lb.2.1
  have zx := @len_zero x
  have hI := infoV_in (n := n) (by omega)
  obtain ⟨F1, F2, F3, F4, F5, F6, F7, F8, F9, F10, F11⟩ := bfmt hn
  have hV0 : V4 0 0 0 0 = 0 := rfl
  rcases Nat.eq_zero_or_pos x with hx0 | hx0
  all_goals first
    | (have gx0 : ((a.length : Int) == 0) = true := by simp only [beq_iff_eq]; omega)
    | (have gx0 : ((a.length : Int) == 0) = false := by simp only [beq_eq_false_iff_ne, ne_eq]; omega)
  case' inr =>
    obtain ⟨E, hE⟩ : ∃ E, scE 2 e = E := ⟨_, rfl⟩
    obtain ⟨L, hLL⟩ : ∃ L, lowR (x * 2 ^ E.toNat) (y * 2 ^ (-E).toNat) = L := ⟨_, rfl⟩
    obtain ⟨Q, hQQ⟩ : ∃ Q, max (2 - fe n - fp n) (L - fp n + 1) = Q := ⟨_, rfl⟩
    obtain ⟨KK, hKK⟩ : ∃ KK, scE 2 (-Q) = KK := ⟨_, rfl⟩
    obtain ⟨⟨c, ex⟩, hdv⟩ : ∃ D, divS d s (x * 2 ^ E.toNat * 2 ^ KK.toNat) (y * 2 ^ (-E).toNat * 2 ^ (-KK).toNat) = D := ⟨_, rfl⟩
    have hEb := scE_b 2 e
    rw [hE] at hEb
    have hKb := scE_b 2 (-Q)
    rw [hKK] at hKb
    have hLb := lowR_bound (x * 2 ^ E.toNat) (y * 2 ^ (-E).toNat)
    rw [hLL, blen_mul (by omega), blen_mul (by omega)] at hLb
    have hcb := @blen_divS d s (x * 2 ^ E.toNat * 2 ^ KK.toNat) (y * 2 ^ (-E).toNat * 2 ^ (-KK).toNat)
    rw [hdv, blen_mul (by have := Nat.two_pow_pos E.toNat; exact Nat.mul_ne_zero (by omega) (by omega)), blen_mul (by omega)] at hcb
    have hyE : y * 2 ^ (-E).toNat ≠ 0 := Nat.mul_ne_zero (by omega) (by have := Nat.two_pow_pos (-E).toNat; omega)
    have hyK : y * 2 ^ (-E).toNat * 2 ^ (-KK).toNat ≠ 0 := Nat.mul_ne_zero hyE (by have := Nat.two_pow_pos (-KK).toNat; omega)
    have l1 := len_b (@blen_pow_le x E.toNat)
    have l2 := len_b (@blen_pow_le y (-E).toNat)
    have l3 := len_b (Nat.le_of_eq (blen_mul (n := x * 2 ^ E.toNat) (Nat.mul_ne_zero (by omega) (by have := Nat.two_pow_pos E.toNat; omega)) KK.toNat))
    have l4 := len_b (Nat.le_of_eq (blen_mul hyE (-KK).toNat))
    rw [blen_mul (by omega)] at l3 l4
    dsimp only at hcb
    have lc := len_b hcb
    have hway := ref_way (d := d) (s := s) (e := e) hn hx0 (Nat.pos_of_ne_zero hy0) (by omega) (by omega) hE.symm hLL.symm hQQ.symm hKK.symm
    have rqb := @rq_b n x y e
    rcases hway with ⟨w1, w2, w3⟩ | ⟨w1, w2, w3, w4', w5, hO⟩
  case' inr.inr =>
    rw [← w4', hdv] at hO
    have hD : rdiv n d s x y e = (c, ex) := w4'.symm.trans hdv
    have hpw : 2 ^ (fp n).toNat ≤ 2 ^ 241 := Nat.pow_le_pow_right (by omega) (by omega)
    have hpw1 : 2 ^ (fp n - 1).toNat ≤ 2 ^ 241 := Nat.pow_le_pow_right (by omega) (by omega)
    have hcl : c < 2 ^ 256 := by
      have h241 : (2 : Nat) ^ 241 < 2 ^ 256 := by decide
      rcases hO with ⟨_, _, h3⟩ | ⟨_, h3⟩
      · exact Nat.lt_of_le_of_lt (Nat.le_trans h3 hpw) h241
      · exact Nat.lt_of_le_of_lt (Nat.le_trans h3 hpw1) h241
  all_goals first
    | (have hV4 := V4_w4 hcl)
    | (have hV4 : decide ((4 : Int) ≥ 5) = false := rfl)
  all_goals first
    | (have hV5 := V4_w4 (Nat.lt_of_le_of_lt (Nat.div_le_self c 2) hcl))
    | (have hV5 : decide ((4 : Int) ≥ 5) = false := rfl)
  all_goals first
    | (have _h := hdv)
    | (have hE : decide ((4 : Int) ≥ 5) = false := rfl
       have hLL : decide ((4 : Int) ≥ 5) = false := rfl
       have hQQ : decide ((4 : Int) ≥ 5) = false := rfl
       have hKK : decide ((4 : Int) ≥ 5) = false := rfl
       have hdv : decide ((4 : Int) ≥ 5) = false := rfl)
  all_goals repeat' (first
 | ((with_reducible first | (refine ZA ?_; intro X hX) | (refine ZB ?_; intro X hX) | (show awp _ _ _ _ (Kp _ _) _) | refine ZD ?_ | refine ZE ?_ | refine ZF ?_ | ((show Bg _ _ _ _ _); simp only [hall]) | (refine ZR ?_ ?_ <;> intro hb <;> (try simp only [hb]) <;> have hq := hb <;> try simp only [HQ] at hq)) <;> try simp only [Go.AM.SS, Nat.reduceAdd, Nat.reduceMul, Nat.reduceSub, ↓reduceIte, Nat.reduceEqDiff, Nat.reduceLT, Nat.reduceLeDiff, reduceCtorEq, Int.reduceBEq, Int.reduceBNe, Nat.reduceBEq, Int.reduceEq, Int.reduceToNat, Int.reduceLE, Int.reduceLT, Nat.reduceDiv, Int.reduceAdd, Int.reduceSub, Int.reduceMul, Int.reduceNeg, Int.reduceGT, Int.reduceGE, Nat.reduceMod, k104_30, s30.eq_1, s30_eq, k104_46, s46.eq_1, s46_eq, k104_47, s47.eq_1, s47_eq, s47_nil1, k104_48, s48.eq_1, s48_eq, s48_nil1, k104_69, s69.eq_1, s69_eq, s69_nil1, k104_81, s81.eq_1, s81_eq, s81_nil1, s81_nil2, s81_nil3, k104_172, s172.eq_1, s172_eq, s172_nil1, s172_nil2, s172_nil3, k104_173, s173.eq_1, s173_eq, s173_nil1, s173_nil2, s173_nil3, k104_174, s174.eq_1, s174_eq, k104_175, s175.eq_1, s175_eq, ty_3, ty_4, ty_9, ty_22, ty_24, ty_33, ty_50, ty_62, hx, hy, hI, infoT, Vl, limbs_getD, gx0, i2, hE, hLL, hQQ, hKK, hdv, hV0, hV4, hV5, Int.zero_sub, Int.toNat_one, Nat.pow_one])
 | with_reducible first
 | (refine hX _ _ ?_; clear hX X)
 | (refine ZG ?_; try clear hall all)
 | (refine ZH ?_; try clear hall all)
 | (refine hK _ _ ?_; clear hK K)
 | refine ZL ?_
 | (refine v_0 _ _ ?_; try clear v_0 V_0)
 | (refine v_1 _ _ ?_; try clear v_1 V_1)
 | (refine v_2 _ _ ?_; try clear v_2 V_2)
 | ((first | refine qr 23 [12,13] ?_ | refine qb 0 [12,26] ?_ | refine qr 18 [12,14,18,23,26] ?_ | refine Zh (a := .seq (.region 13 _ _) _) [0,2,12,14,18,19,22,23] ?_ | refine Zh (a := .seq (.region 10 _ _) _) [0,1,2,12,14,18,19,22,23] ?_ | refine qr 9 [0,1,2,12,14,18,19,22,23] ?_ | refine qr 8 [0,1,2,12,14,18,19,20,21] ?_ | refine qr 7 [0,1,2,3,4,12,14,18,19] ?_ | refine qr 6 [0,1,2,3,4,12,14,18] ?_ | refine qr 5 [0,1,2,3,4,12,14] ?_ | refine Zh (a := .seq (.region 2 _ _) _) [0,1,2,3,4,5,12,14] ?_ | refine qr 1 [0,1,2,3,4,5,12,14] ?_ | refine qr 0 [0,1,2,3,4,5,12] ?_); intro V_0 v_0)
 | ((first | refine qr 20 [12,13] ?_ | refine qr 22 [12,13] ?_ | refine qr 21 [12,26,126] ?_ | refine qr 19 [12,14,18,26,123] ?_ | refine qr 17 [12,13] ?_ | refine Zh (a := .seq (.region 15 _ _) _) [12,24] ?_ | refine qr 14 [0,1,2,12,24] ?_ | refine qr 13 [0,1,2,12,14,18,19,22,23,95] ?_ | refine qr 11 [0,1,2,12,14,18,19,22,23] ?_ | refine qr 10 [0,1,2,12,14,18,19,22,23,84] ?_ | refine qr 4 [12,13] ?_ | refine qr 3 [12,16] ?_ | refine qr 2 [0,1,2,3,4,5,12,14,35] ?_); intro V_1 v_1)
 | ((first | refine qr 15 [0,2,12,24,104] ?_); intro V_2 v_2)
 | (refine ZM ?_; intro K hK)
 | (refine ZN ?_; intro all hall K hK)
 | (refine ZO ?_ ?_; kernel_rfl; intro all hall K hK)
 | (refine ZQ ?_ ?_)
 | (refine ZK ?_; kernel_rfl)
 | (refine Zg ?_; simp only [↓reduceIte, Nat.reduceEqDiff])
 | refine ZS ?_ | refine ZT ?_ | refine ZU ?_ | refine ZV ?_ | refine ZW ?_ | refine ZX ?_ | refine Ze ?_ | refine Zf ?_)
  all_goals try clear v_2 V_2
  all_goals try clear v_1 V_1
  all_goals try clear v_0 V_0
  all_goals clear hV4 hV5
  all_goals (try simp only [inR])
  all_goals (try (have hx1 : x ≠ 0 := by omega))
  all_goals first
    | omega
    | exact ⟨⟨la.1, la.2.1, by omega⟩, lb.1, lb.2.1, by omega⟩
    | exact ⟨⟨Ml _, by omega⟩, Ml _, by omega⟩
    | exact ⟨⟨Ml _, by omega⟩, ⟨Ml _, by omega⟩, hyK⟩
    | exact ⟨Ml _, by omega⟩
    | exact ⟨hn, .inr (.inl ⟨rfl, rfl, rfl, rfl⟩)⟩
    | exact ⟨hn, .inl ⟨rfl, rfl, by omega, by omega, .inr ⟨by show ((0 : Nat) : Int) < _; omega, rfl⟩⟩⟩
    | (rw [(rnd_zero (n := n) (d := d) (s := s) (e := e) (y := y) hx0).1, (rnd_zero (n := n) (d := d) (s := s) (e := e) (y := y) hx0).2]; exact ⟨rfl, rfl⟩)
    | (have vv := rnd_ovA (n := n) (d := d) (s := s) hx1 w3
       rw [vv.1, vv.2]
       first
         | (rw [ov_t hq]; exact ⟨rfl, rfl⟩)
         | (rw [ov_f hq]; exact ⟨rfl, rfl⟩))
    | (rw [w1]; exact ⟨hn, ⟨Wl _ _, Wl _ _, Wl _ _, Wl _ _⟩, rnd_isD1 F1 hO rqb.1 (by omega) (by omega)⟩)
    | (rw [w1]; exact ⟨hn, ⟨Wl _ _, Wl _ _, Wl _ _, Wl _ _⟩, rnd_isD0 F1 hO rqb.1 (by omega) (by omega)⟩)
    | (have vv := rnd_ov1 hx1 hD (by omega) (by omega)
       rw [vv.1, vv.2]
       first
         | (rw [ov_t hq]; exact ⟨rfl, rfl⟩)
         | (rw [ov_f hq]; exact ⟨rfl, rfl⟩))
    | (have vv := rnd_ov0 hx1 hD (by omega) (by omega)
       rw [vv.1, vv.2]
       first
         | (rw [ov_t hq]; exact ⟨rfl, rfl⟩)
         | (rw [ov_f hq]; exact ⟨rfl, rfl⟩))
    | (have v1 := rnd_num1 hx1 hD (by omega) (by omega)
       have ff := rnd_f hx1 hD (.inl ⟨by omega, by omega⟩)
       rw [v1, w1]
       first
         | (rw [ff.1 (by simp_all)]; exact ⟨rfl, rfl⟩)
         | (rw [ff.2.1 (by simp_all) (by omega)]; exact ⟨rfl, rfl⟩)
         | (rw [ff.2.2 (by simp_all) (by omega)]; exact ⟨rfl, rfl⟩))
    | (have v1 := rnd_num0 hx1 hD (by omega) (by omega)
       have ff := rnd_f hx1 hD (.inr ⟨by omega, by omega⟩)
       rw [v1, w1]
       first
         | (rw [ff.1 (by simp_all)]; exact ⟨rfl, rfl⟩)
         | (rw [ff.2.1 (by simp_all) (by omega)]; exact ⟨rfl, rfl⟩)
         | (rw [ff.2.2 (by simp_all) (by omega)]; exact ⟨rfl, rfl⟩))
    | skip
theorem sound_104 : Sound Tryz.prog 104 .body (norm s104) := by
  refine sb Tryz.func104 rfl (by kernel_rfl) G104_ok (by kernel_rfl) fun ds p r hs hp => ?_
  unfold s104 at hs
  split at hs
  · cases hs; exact ⟨Nat.le_of_ble_eq_true (by kernel_rfl), wk104 _ _ _ _ _ _ hp⟩
  · cases hs
end Go.Proofs.AMT
namespace Go.AM.LN
theorem p10q (a b : Nat) (h : a ≤ b) : 10 ^ a ≤ 10 ^ b := Nat.pow_le_pow_right (by decide) h
end Go.AM.LN
set_option maxRecDepth 20000
namespace Go.Proofs.AMT
open Go.AM Go.AM.LN
attribute [local congr] bindO_congr bindS_congr bindG_congr awpOps_congr aOne_congr awp_congr aCond_congr awpD_congr dOne_congr keysB_congr nOne_congr thenP_congr blockP_congr Chk_congr Brk_congr
noncomputable def s35 : Cs := fun ds => match ds with
  | [.v (.int .i64 n), .v (.int .i64 r), .v (.agg ⟨[.int .i64 cl, .bool sg, .bool si, .string D, .int .i64 ex]⟩)] => some (D.size ≤ 10000 ∧ -9223372036854775808 ≤ ex ∧ ex ≤ 9223372036854775807, .many [.v (.agg #[.int .u64 (w4 (mkV n r cl sg si D.data.toList ex) 0), .int .u64 (w4 (mkV n r cl sg si D.data.toList ex) 1), .int .u64 (w4 (mkV n r cl sg si D.data.toList ex) 2), .int .u64 (w4 (mkV n r cl sg si D.data.toList ex) 3)]), .v (.int .i64 (mkF n r cl sg si D.data.toList ex)), .v (.int .i64 (mkE n r cl sg si D.data.toList ex))])
  | _ => none
theorem s35_eq (n : Int) (r : Int) (cl : Int) (sg : Bool) (si : Bool) (D : ByteArray) (ex : Int) : norm s35 [.v (.int .i64 n), .v (.int .i64 r), .v (.agg #[.int .i64 cl, .bool sg, .bool si, .string D, .int .i64 ex])] = s35 [.v (.int .i64 n), .v (.int .i64 r), .v (.agg #[.int .i64 cl, .bool sg, .bool si, .string D, .int .i64 ex])] := rfl
noncomputable def G35 : Gam := [(30, .body, norm s30), (37, .body, norm s37), (41, .body, norm s41), (44, .body, norm s44), (46, .body, norm s46), (61, .body, norm s61), (81, .body, norm s81), (102, .body, norm s102), (103, .body, norm s103), (104, .body, norm s104)]
theorem G35_ok : Gk Tryz.prog G35 := Gc sound_30 (Gc sound_37 (Gc sound_41 (Gc sound_44 (Gc sound_46 (Gc sound_61 (Gc sound_81 (Gc sound_102 (Gc sound_103 (Gc sound_104 Gn)))))))))
theorem k35_30 : lk G35 30 = some (.body, norm s30) := rfl
theorem k35_37 : lk G35 37 = some (.body, norm s37) := rfl
theorem k35_41 : lk G35 41 = some (.body, norm s41) := rfl
theorem k35_44 : lk G35 44 = some (.body, norm s44) := rfl
theorem k35_46 : lk G35 46 = some (.body, norm s46) := rfl
theorem k35_61 : lk G35 61 = some (.body, norm s61) := rfl
theorem k35_81 : lk G35 81 = some (.body, norm s81) := rfl
theorem k35_102 : lk G35 102 = some (.body, norm s102) := rfl
theorem k35_103 : lk G35 103 = some (.body, norm s103) := rfl
theorem k35_104 : lk G35 104 = some (.body, norm s104) := rfl
theorem wk35 (n : Int) (r : Int) (cl : Int) (sg : Bool) (si : Bool) (D : ByteArray) (ex : Int) (hp : D.size ≤ 10000 ∧ -9223372036854775808 ≤ ex ∧ ex ≤ 9223372036854775807) : awp ty G35 (code Tryz.f35) (retP ty Tryz.f35.results.toList (.many [.v (.agg #[.int .u64 (w4 (mkV n r cl sg si D.data.toList ex) 0), .int .u64 (w4 (mkV n r cl sg si D.data.toList ex) 1), .int .u64 (w4 (mkV n r cl sg si D.data.toList ex) 2), .int .u64 (w4 (mkV n r cl sg si D.data.toList ex) 3)]), .v (.int .i64 (mkF n r cl sg si D.data.toList ex)), .v (.int .i64 (mkE n r cl sg si D.data.toList ex))])) (entry 0 [.v (.int .i64 n), .v (.int .i64 r), .v (.agg #[.int .i64 cl, .bool sg, .bool si, .string D, .int .i64 ex])]) [] := by
  unfold code
  simp only [Tryz.f35, Option.getD_some]
  obtain ⟨l, rfl⟩ : ∃ l, D = bs l := ⟨_, Bt D⟩
  rw [Bz] at hp
  rw [Bd]
  have hV0 : V4 0 0 0 0 = 0 := rfl
  have i2 : (2 : Int).toNat = 2 := rfl
  have i10 : (10 : Int).toNat = 10 := rfl
  obtain ⟨E, hE⟩ : ∃ E, min (max ex (-12000)) 12000 = E := ⟨_, rfl⟩
  have hcE : clE 12000 ex = E := hE
  have hEb : -12000 ≤ E ∧ E ≤ 12000 := by omega
  have hSE : scE 10 E = E := by rw [scE10]; omega
  have hc : ¬ (1 ≤ n ∧ n ≤ 6) ∨ ((1 ≤ n ∧ n ≤ 6) ∧ ¬ (0 ≤ r ∧ r ≤ 4)) ∨ ((1 ≤ n ∧ n ≤ 6) ∧ 0 ≤ r ∧ r ≤ 4) := by omega
  rcases hc with hn | ⟨hn, hr⟩ | ⟨hn, hr⟩
  case' inl =>
    rw [(mk_no (okR_n hn)).1, (mk_no (okR_n hn)).2.1, (mk_no (okR_n hn)).2.2]
    have gk : (decide (n ≥ 1) && decide (n ≤ 6)) = false := by
      rw [Bool.and_eq_false_iff, decide_eq_false_iff_not, decide_eq_false_iff_not]; omega
    have gR : decide ((4 : Int) ≥ 5) = false := rfl
    have hG : decide ((4 : Int) ≥ 5) = false := rfl
    have g0 : decide ((4 : Int) ≥ 5) = false := rfl
    have hP : decide ((4 : Int) ≥ 5) = false := rfl
    have hI : decide ((4 : Int) ≥ 5) = false := rfl
  case' inr.inl =>
    rw [(mk_no (okR_d hr)).1, (mk_no (okR_d hr)).2.1, (mk_no (okR_d hr)).2.2]
    have gk : (decide (n ≥ 1) && decide (n ≤ 6)) = true := by rw [decide_eq_true (by omega : n ≥ 1), decide_eq_true (by omega : n ≤ 6)]; rfl
    have gR : (decide (r ≥ 0) && decide (r ≤ 4)) = false := by
      rw [Bool.and_eq_false_iff, decide_eq_false_iff_not, decide_eq_false_iff_not]; omega
    have hG : decide ((4 : Int) ≥ 5) = false := rfl
    have g0 : decide ((4 : Int) ≥ 5) = false := rfl
    have hP : decide ((4 : Int) ≥ 5) = false := rfl
    have hI : decide ((4 : Int) ≥ 5) = false := rfl
  case' inr.inr =>
    have hR := okR_y hn hr
    have gk : (decide (n ≥ 1) && decide (n ≤ 6)) = true := by rw [decide_eq_true (by omega : n ≥ 1), decide_eq_true (by omega : n ≤ 6)]; rfl
    have gR : (decide (r ≥ 0) && decide (r ≤ 4)) = true := by rw [decide_eq_true (by omega : r ≥ 0), decide_eq_true (by omega : r ≤ 4)]; rfl
    have hI := infoV_in (n := n) (by omega)
    obtain ⟨F1, F2, F3, F4, F5, F6, F7, F8, F9, F10, F11⟩ := bfmt hn
    rcases Bool.eq_false_or_eq_true (gGood cl sg si l ex) with hG | hG
    case' inr =>
      rw [(mk_bad hR hG).1, (mk_bad hR hG).2.1, (mk_bad hR hG).2.2]
      have g0 : decide ((4 : Int) ≥ 5) = false := rfl
      have hP : decide ((4 : Int) ≥ 5) = false := rfl
    case' inl =>
      obtain ⟨gl, gc, ga⟩ := good_len hG
      have hL := dv_len3 ga
      rw [mk_ok hR hG]
      rcases gc with rfl | rfl | rfl
      case' inl =>
        have hdv : dv l < 10 ^ 4000 := Nat.lt_of_lt_of_le (dv_lt l ga) (p10q l.length 4000 gl)
        rw [(mk_1 hR hG).1, (mk_1 hR hG).2, ← (far_eq hn hdv).1, ← (far_eq hn hdv).2]
        unfold tenX tenY
        rw [hcE]
        have hM := dv_mul_len ga E.toNat
        have hN := pow10_len (-E).toNat
        have hz0 : 10 ^ (-E).toNat ≠ 0 := Nat.pos_iff_ne_zero.1 (Nat.pow_pos (by decide))
        have hP : decide ((4 : Int) ≥ 5) = false := rfl
        rcases Nat.eq_zero_or_pos (dv l) with hz | hz
        all_goals first
          | (have g0 : decide (((limbs (dv l)).length : Int) > 0) = false := by rw [hz]; rfl)
          | (have g0 : decide (((limbs (dv l)).length : Int) > 0) = true := by
               have := (not_congr (len_zero (x := dv l))).2 (by omega)
               rw [decide_eq_true]; omega)
      case' inr.inl =>
        obtain ⟨rfl, rfl, rfl⟩ := good_2 hG
        rw [(mk_2 hR hG).1, (mk_2 hR hG).2]
        have g0 : decide ((4 : Int) ≥ 5) = false := rfl
        have hP : decide ((4 : Int) ≥ 5) = false := rfl
      case' inr.inr =>
        obtain rfl := good_3 hG
        rw [(mk_3 hR hG).1, (mk_3 hR hG).2]
        have hP := V4_w4 (payV_lt (q := si) (x := dv l) (B := 2 ^ (fl n).toNat) (Nat.pow_le_pow_right (by decide) (by omega)))
        have hPD := pay_isD (q := si) hn (dv l)
        have g0 : decide ((4 : Int) ≥ 5) = false := rfl
  all_goals repeat' (first
 | ((with_reducible first | (refine ZA ?_; intro X hX) | (refine ZB ?_; intro X hX) | (show awp _ _ _ _ (Kp _ _) _) | (refine hX _ _ _ _ ?_; clear hX X) | (refine ZC ?_; intro X hX) | refine ZD ?_ | refine ZE ?_ | refine ZF ?_ | ((show Bg _ _ _ _ _); simp only [hall]) | (refine ZR ?_ ?_ <;> intro hb <;> (try simp only [hb]) <;> have hq := hb <;> try simp only [HQ] at hq)) <;> try simp only [Go.AM.SS, Nat.reduceAdd, Nat.reduceMul, Nat.reduceSub, ↓reduceIte, Nat.reduceEqDiff, Nat.reduceLT, Nat.reduceLeDiff, reduceCtorEq, Int.reduceBEq, Int.reduceBNe, Nat.reduceBEq, Int.reduceEq, Int.reduceToNat, Int.reduceLE, Int.reduceLT, Nat.reduceDiv, Int.reduceAdd, Int.reduceSub, Int.reduceMul, Int.reduceNeg, Int.reduceGT, Int.reduceGE, Nat.reduceMod, k35_30, s30.eq_1, s30_eq, k35_37, s37.eq_1, s37_eq, k35_41, s41.eq_1, s41_eq, k35_44, s44.eq_1, s44_eq, k35_46, s46.eq_1, s46_eq, k35_61, s61.eq_1, s61_eq, k35_81, s81.eq_1, s81_eq, s81_nil1, s81_nil2, s81_nil3, k35_102, s102.eq_1, s102_eq, k35_103, s103.eq_1, s103_eq, s103_nil1, k35_104, s104.eq_1, s104_eq, s104_nil1, s104_nil2, s104_nil3, ty_3, ty_4, ty_9, ty_22, ty_24, ty_33, ty_42, ty_50, ty_62, bs_lit, bs_app, Bz, bs_beq, Bi, Bd, Be, bt_bs, List.length_append, List.append_nil, List.nil_append, List.cons_append, hV0, hI, infoT, gk, gR, hG, g0, i2, i10, hE, hSE, hP, toInts, Vl, val_1, limbs_getD, Bool.false_eq_true, Nat.one_mul])
 | with_reducible first
 | (refine hX _ _ ?_; clear hX X)
 | (refine ZI ?_; try clear hall all)
 | (refine ZJ ?_; kernel_rfl)
 | ((show clashK _ _ _ = true); kernel_rfl)
 | (refine ZG ?_; try clear hall all)
 | (refine ZH ?_; try clear hall all)
 | (refine hK _ _ ?_; clear hK K)
 | refine ZL ?_
 | (refine v_0 _ _ ?_; try clear v_0 V_0)
 | (refine v_1 _ _ ?_; try clear v_1 V_1)
 | ((first | refine qr 17 [6,7,8] ?_ | refine qr 16 [6,17,18] ?_ | refine Zh (a := .seq (.region 14 _ _) _) [0,1,5,6,15,16] ?_ | refine qr 13 [0,1,5,6,15,16] ?_ | refine Zh (a := .seq (.region 6 _ _) _) [0,1,5,6] ?_ | refine qr 5 [0,1,5,6,9] ?_ | refine Zh (a := .seq (.region 3 _ _) _) [0,1,5,6] ?_ | refine Zh (a := .seq (.region 1 _ _) _) [0,1,5,6] ?_ | refine qr 0 [0,1,5,6] ?_); intro V_0 v_0)
 | ((first | refine qr 14 [0,1,5,6,15,16,74] ?_ | refine qr 9 [6,7,8] ?_ | refine qr 8 [6,11] ?_ | refine qr 12 [6,7,8] ?_ | refine qr 11 [6,13] ?_ | refine qr 10 [0,1,5,6,9,50] ?_ | refine qr 7 [0,1,5,6,9,38,39] ?_ | refine qr 6 [0,1,5,6,9,38] ?_ | refine qr 4 [6,7,8] ?_ | refine qr 3 [0,1,5,6,30] ?_ | refine qr 2 [6,7,8] ?_ | refine qr 1 [0,1,5,6,26] ?_); intro V_1 v_1)
 | (refine ZM ?_; intro K hK)
 | (refine ZN ?_; intro all hall K hK)
 | (refine Da (id := 11) ?_ ?_; kernel_rfl; intro all hall K hK)
 | (refine ZO ?_ ?_; kernel_rfl; intro all hall K hK)
 | (refine ZQ ?_ ?_)
 | (refine ZK ?_; kernel_rfl)
 | (refine Zg ?_; simp only [↓reduceIte, Nat.reduceEqDiff])
 | refine ZS ?_ | refine ZT ?_ | refine ZU ?_ | refine ZV ?_ | refine ZW ?_ | refine ZX ?_ | refine Ze ?_ | refine Zf ?_)
  all_goals try clear v_1 V_1
  all_goals try clear v_0 V_0
  all_goals (try simp only [inR])
  all_goals first
    | omega
    | exact ⟨⟨ga, gl⟩, ⟨Ml _, len4 (Nat.pow_lt_pow_right (by decide) (by omega))⟩, Nat.pow_le_pow_right (by decide) (by omega)⟩
    | exact ⟨hn, ⟨Wl _ _, Wl _ _, Wl _ _, Wl _ _⟩, hPD⟩
    | exact ⟨hn, inf_isD n⟩
    | exact ⟨ga, by omega⟩
    | exact ⟨hn, hr, ⟨Ml _, by omega⟩, lim_1⟩
    | (rw [(rnd_zero (y := 1) hz).1, (rnd_zero (y := 1) hz).2, (rnd_zero (y := 10 ^ (-E).toNat) (show dv l * 10 ^ E.toNat = 0 by rw [hz, Nat.zero_mul])).1, (rnd_zero (y := 10 ^ (-E).toNat) (show dv l * 10 ^ E.toNat = 0 by rw [hz, Nat.zero_mul])).2]; exact ⟨rfl, rfl⟩)
    | exact ⟨⟨Ml _, by omega⟩, lim_1⟩
    | exact ⟨hn, hr, ⟨Ml _, by omega⟩, ⟨Ml _, by omega⟩, hz0⟩
    | (simp only [w4_0]; done)
    | exact rfl
    | skip
theorem sound_35 : Sound Tryz.prog 35 .body (norm s35) := by
  refine sb Tryz.func35 rfl (by kernel_rfl) G35_ok (by kernel_rfl) fun ds p r hs hp => ?_
  unfold s35 at hs
  split at hs
  · cases hs; exact ⟨Nat.le_of_ble_eq_true (by kernel_rfl), wk35 _ _ _ _ _ _ _ hp⟩
  · cases hs
noncomputable def s119 : Cs := fun ds => match ds with
  | [.v (.string s)] => some (s.size ≤ 100000, .many [.v (.bool (sgnN s.data.toList)), .v (.string (bs (sgnR s.data.toList)))])
  | _ => none
theorem s119_eq (s : ByteArray) : norm s119 [.v (.string s)] = s119 [.v (.string s)] := rfl
noncomputable def G119 : Gam := []
theorem G119_ok : Gk Tryz.prog G119 := Gn
theorem wk119 (s : ByteArray) (hp : s.size ≤ 100000) : awp ty G119 (code Tryz.f119) (retP ty Tryz.f119.results.toList (.many [.v (.bool (sgnN s.data.toList)), .v (.string (bs (sgnR s.data.toList)))])) (entry 0 [.v (.string s)]) [] := by
  unfold code
  simp only [Tryz.f119, Option.getD_some]
  obtain ⟨l, rfl⟩ : ∃ l, s = bs l := ⟨_, Bt s⟩
  rw [Bz] at hp
  rw [Bd]
  have hT : List.take (l.length - 1) (List.drop 1 l) = l.drop 1 := List.take_of_length_le (by rw [List.length_drop]; omega)
  all_goals repeat' (first
 | ((with_reducible first | (refine ZA ?_; intro X hX) | (refine ZB ?_; intro X hX) | (show awp _ _ _ _ (Kp _ _) _) | refine ZD ?_ | refine ZE ?_ | refine ZF ?_ | ((show Bg _ _ _ _ _); simp only [hall]) | (refine ZR ?_ ?_ <;> intro hb <;> (try simp only [hb]) <;> have hq := hb <;> try simp only [HQ] at hq)) <;> try simp only [Go.AM.SS, Nat.reduceAdd, Nat.reduceMul, Nat.reduceSub, ↓reduceIte, Nat.reduceEqDiff, Nat.reduceLT, Nat.reduceLeDiff, reduceCtorEq, Int.reduceBEq, Int.reduceBNe, Nat.reduceBEq, Int.reduceEq, Int.reduceToNat, Int.reduceLE, Int.reduceLT, Nat.reduceDiv, Int.reduceAdd, Int.reduceSub, Int.reduceMul, Int.reduceNeg, Int.reduceGT, Int.reduceGE, Nat.reduceMod, ty_3, ty_5, ty_9, bs_lit, bs_app, Bz, bs_beq, Bi, Bd, Be, bt_bs, List.length_append, List.append_nil, List.nil_append, List.cons_append, hT])
 | with_reducible first
 | (refine hX _ _ ?_; clear hX X)
 | (refine ZG ?_; try clear hall all)
 | (refine ZH ?_; try clear hall all)
 | (refine hK _ _ ?_; clear hK K)
 | refine ZL ?_
 | (refine v_0 _ _ ?_; try clear v_0 V_0)
 | (refine v_1 _ _ ?_; try clear v_1 V_1)
 | ((first | refine qr 3 [2,3] ?_ | refine Zh (a := .seq (.region 1 _ _) _) [0] ?_ | refine qr 0 [0] ?_); intro V_0 v_0)
 | ((first | refine qr 2 [2,3] ?_ | refine qr 1 [0,16] ?_); intro V_1 v_1)
 | (refine ZM ?_; intro K hK)
 | (refine ZN ?_; intro all hall K hK)
 | (refine ZO ?_ ?_; kernel_rfl; intro all hall K hK)
 | (refine ZQ ?_ ?_)
 | (refine ZK ?_; kernel_rfl)
 | refine ZT ?_ | refine ZU ?_ | refine ZW ?_)
  all_goals try clear v_1 V_1
  all_goals try clear v_0 V_0
  all_goals (try simp only [inR])
  all_goals first
    | omega
    | (rw [(rs_0 hq).1, (rs_0 hq).2]; exact ⟨rfl, rfl⟩)
    | (rw [(rs_45 (by assumption) hq).1, (rs_45 (by assumption) hq).2, hq]; exact ⟨rfl, rfl⟩)
    | (rw [(rs_43 (by assumption) hq).1, (rs_43 (by assumption) hq).2, hq]; exact ⟨rfl, rfl⟩)
    | (rw [(rs_n (by assumption) (by assumption) (by assumption)).1, (rs_n (by assumption) (by assumption) (by assumption)).2]; exact ⟨rfl, rfl⟩)
    | skip
theorem sound_119 : Sound Tryz.prog 119 .body (norm s119) := by
  refine sb Tryz.func119 rfl (by kernel_rfl) G119_ok (by kernel_rfl) fun ds p r hs hp => ?_
  unfold s119 at hs
  split at hs
  · cases hs; exact ⟨Nat.le_of_ble_eq_true (by kernel_rfl), wk119 _ hp⟩
  · cases hs
noncomputable def s159 : Cs := fun ds => match ds with
  | [.v (.string s)] => some (s.size ≤ 100000, .one (.v (.string (bs (bare s.data.toList)))))
  | _ => none
theorem s159_eq (s : ByteArray) : norm s159 [.v (.string s)] = s159 [.v (.string s)] := rfl
noncomputable def G159 : Gam := []
theorem G159_ok : Gk Tryz.prog G159 := Gn
theorem wk159 (s : ByteArray) (hp : s.size ≤ 100000) : awp ty G159 (code Tryz.f159) (retP ty Tryz.f159.results.toList (.one (.v (.string (bs (bare s.data.toList)))))) (entry 0 [.v (.string s)]) [] := by
  unfold code
  simp only [Tryz.f159, Option.getD_some]
  obtain ⟨l, rfl⟩ : ∃ l, s = bs l := ⟨_, Bt s⟩
  rw [Bz] at hp
  rw [Bd]
  all_goals repeat' (first
 | ((with_reducible first | (refine ZA ?_; intro X hX) | (show awp _ _ _ _ (Kp _ _) _) | refine ZD ?_ | refine ZE ?_ | refine ZF ?_ | ((show Bg _ _ _ _ _); simp only [hall]) | (refine ZR ?_ ?_ <;> intro hb <;> (try simp only [hb]) <;> have hq := hb <;> try simp only [HQ] at hq)) <;> try simp only [Go.AM.SS, Nat.reduceAdd, Nat.reduceMul, Nat.reduceSub, ↓reduceIte, Nat.reduceEqDiff, Nat.reduceLT, Nat.reduceLeDiff, reduceCtorEq, Int.reduceBEq, Int.reduceBNe, Nat.reduceBEq, Int.reduceEq, Int.reduceToNat, Int.reduceLE, Int.reduceLT, Nat.reduceDiv, Int.reduceAdd, Int.reduceSub, Int.reduceMul, Int.reduceNeg, Int.reduceGT, Int.reduceGE, Nat.reduceMod, ty_3, ty_5, ty_9, bs_lit, bs_app, Bz, bs_beq, Bi, Bd, Be, bt_bs, List.length_append, List.append_nil, List.nil_append, List.cons_append, List.length_drop])
 | with_reducible first
 | (refine hX _ _ ?_; clear hX X)
 | (refine ZG ?_; try clear hall all)
 | (refine hK _ _ ?_; clear hK K)
 | refine ZL ?_
 | (refine v_0 _ _ ?_; try clear v_0 V_0)
 | (refine v_1 _ _ ?_; try clear v_1 V_1)
 | (refine v_2 _ _ ?_; try clear v_2 V_2)
    | (with_reducible refine awp_lp (c := .seq (.seq (.region 1 _ _) _) _) (σ := Nat) (fun k => k ≤ l.length ∧ bare (l.drop k) = bare l) (fun k => [(0, .v (.string (bs (l.drop k))))]) (fun k => []) (fun k => l.length - k) 0 ?_ ?_ (fun k hk => ?_))
 | ((first | refine qr 3 [2] ?_ | refine qb 0 [0] ?_ | refine qr 0 [0] ?_); intro V_0 v_0)
 | ((first | refine Zh (a := .seq (.region 1 _ _) _) [0] ?_); intro V_1 v_1)
 | ((first | refine qr 1 [0,10] ?_); intro V_2 v_2)
 | (refine ZM ?_; intro K hK)
 | (refine ZN ?_; intro all hall K hK)
 | (refine ZQ ?_ ?_)
 | (refine Zg ?_; simp only [↓reduceIte, Nat.reduceEqDiff])
 | refine ZS ?_ | refine ZT ?_ | refine ZU ?_ | refine ZV ?_ | refine ZW ?_ | refine ZX ?_ | refine ZY ?_ | refine ZZ ?_ | refine Za ?_ | refine Ze ?_ | refine Zf ?_)
  all_goals try clear v_2 V_2
  all_goals try clear v_1 V_1
  all_goals try clear v_0 V_0
  all_goals (try simp only [inR])
  all_goals first
    | omega
    | exact ⟨Nat.zero_le _, rfl⟩
    | ((refine Eo [] rfl ?_ ?_ <;> simp [Me, Sl, AvLe, lk]); done)
    | (rw [List.take_of_length_le (by simp only [List.length_drop]; omega), List.drop_drop]
       exact ⟨k + 1, (by (refine Eo [] rfl ?_ ?_ <;> simp [Me, Sl, AvLe, lk])), ⟨by omega, (bare_step (by assumption) hq).trans hk.2⟩, by omega⟩)
    | (rw [← hk.2, bare_stop (by assumption) hq]; done)
    | (rw [← hk.2, bare_fin hq]; done)
    | skip
theorem sound_159 : Sound Tryz.prog 159 .body (norm s159) := by
  refine sb Tryz.func159 rfl (by kernel_rfl) G159_ok (by kernel_rfl) fun ds p r hs hp => ?_
  unfold s159 at hs
  split at hs
  · cases hs; exact ⟨Nat.le_of_ble_eq_true (by kernel_rfl), wk159 _ hp⟩
  · cases hs
noncomputable def s186 : Cs := fun ds => match ds with
  | [.v (.string s)] => some (s.data.toList.all isDg = true ∧ s.size ≤ 16, .one (.v (.int .i64 (dv s.data.toList))))
  | _ => none
theorem s186_eq (s : ByteArray) : norm s186 [.v (.string s)] = s186 [.v (.string s)] := rfl
noncomputable def G186 : Gam := []
theorem G186_ok : Gk Tryz.prog G186 := Gn
theorem wk186 (s : ByteArray) (hp : s.data.toList.all isDg = true ∧ s.size ≤ 16) : awp ty G186 (code Tryz.f186) (retP ty Tryz.f186.results.toList (.one (.v (.int .i64 (dv s.data.toList))))) (entry 0 [.v (.string s)]) [] := by
  unfold code
  simp only [Tryz.f186, Option.getD_some]
  obtain ⟨l, rfl⟩ : ∃ l, s = bs l := ⟨_, Bt s⟩
  rw [Bz, Bd] at hp
  rw [Bd]
  all_goals repeat' (first
 | ((with_reducible first | (refine ZA ?_; intro X hX) | (show awp _ _ _ _ (Kp _ _) _) | refine ZD ?_ | refine ZE ?_ | refine ZF ?_ | ((show Bg _ _ _ _ _); simp only [hall]) | (refine ZR ?_ ?_ <;> intro hb <;> (try simp only [hb]) <;> have hq := hb <;> try simp only [HQ] at hq)) <;> try simp only [Go.AM.SS, Nat.reduceAdd, Nat.reduceMul, Nat.reduceSub, ↓reduceIte, Nat.reduceEqDiff, Nat.reduceLT, Nat.reduceLeDiff, reduceCtorEq, Int.reduceBEq, Int.reduceBNe, Nat.reduceBEq, Int.reduceEq, Int.reduceToNat, Int.reduceLE, Int.reduceLT, Nat.reduceDiv, Int.reduceAdd, Int.reduceSub, Int.reduceMul, Int.reduceNeg, Int.reduceGT, Int.reduceGE, Nat.reduceMod, ty_3, ty_5, ty_9, bs_lit, bs_app, Bz, bs_beq, Bi, Bd, Be, bt_bs, List.length_append, List.append_nil, List.nil_append, List.cons_append])
 | with_reducible first
 | (refine hX _ _ ?_; clear hX X)
 | (refine ZG ?_; try clear hall all)
 | (refine hK _ _ ?_; clear hK K)
 | refine ZL ?_
 | (refine v_0 _ _ ?_; try clear v_0 V_0)
 | (refine v_1 _ _ ?_; try clear v_1 V_1)
 | (refine v_2 _ _ ?_; try clear v_2 V_2)
    | (with_reducible refine awp_lp (c := .seq (.seq (.region 3 _ _) _) _) (σ := Nat) (fun k => k ≤ l.length) (fun k => [(0, .v (.string (bs l))), (3, .v (.int .i64 (dv (l.take k)))), (4, .v (.int .i64 k))]) (fun k => []) (fun k => l.length - k) 0 ?_ ?_ (fun k hk => ?_))
 | ((first | refine qr 6 [2] ?_ | refine Zh (a := .seq (.region 2 _ _) _) [3] ?_ | refine qr 1 [0,3] ?_ | refine qr 0 [0] ?_); intro V_0 v_0)
 | ((first | refine qb 1 [0,3,4] ?_ | refine Zh (a := .seq (.region 3 _ _) _) [0,3,4] ?_ | refine qr 2 [0,3,4] ?_); intro V_1 v_1)
 | ((first | refine qr 3 [0,3,4,8] ?_); intro V_2 v_2)
 | (refine ZM ?_; intro K hK)
 | (refine ZN ?_; intro all hall K hK)
 | (refine ZQ ?_ ?_)
 | (refine Zg ?_; simp only [↓reduceIte, Nat.reduceEqDiff])
 | refine ZS ?_ | refine ZT ?_ | refine ZU ?_ | refine ZV ?_ | refine ZW ?_ | refine ZX ?_ | refine ZY ?_ | refine ZZ ?_ | refine Za ?_ | refine Ze ?_ | refine Zf ?_)
  all_goals try clear v_2 V_2
  all_goals try clear v_1 V_1
  all_goals try clear v_0 V_0
  all_goals (try simp only [inR])
  all_goals (try omega)
  · refine Eo [] rfl ?_ ?_ <;> simp [Me, Sl, AvLe, lk, dv]
  all_goals (try (
    have hv := dv_lt _ (drop_all hp.1 k).2
    have he : 10 ^ (List.take k l).length ≤ 10 ^ 16 := Nat.pow_le_pow_right (by decide) (by rw [List.length_take]; omega)
    have hc := all_getD hp.1 (show k < l.length by omega)
    have hs := dv_take (l := l) (show k < l.length by omega)))
  · omega
  · omega
  · refine ⟨k + 1, ?_, by omega, by omega⟩
    rw [show 10 * ((dv (List.take k l) : Nat) : Int) + (((l.getD k 0).toNat : Int) - 48) % 256 = ((dv (List.take (k + 1) l) : Nat) : Int) by rw [hs]; omega]
    refine Eo [] rfl ?_ ?_ <;> simp [Me, Sl, AvLe, lk]
  · rw [List.take_of_length_le (by omega)]
theorem sound_186 : Sound Tryz.prog 186 .body (norm s186) := by
  refine sb Tryz.func186 rfl (by kernel_rfl) G186_ok (by kernel_rfl) fun ds p r hs hp => ?_
  unfold s186 at hs
  split at hs
  · cases hs; exact ⟨Nat.le_of_ble_eq_true (by kernel_rfl), wk186 _ hp⟩
  · cases hs
noncomputable def s122 : Cs := fun ds => match ds with
  | [.v (.string s)] => some (s.size ≤ 100000, .many [.v (.int .i64 (expV s.data.toList)), .v (.bool (expOk s.data.toList))])
  | _ => none
theorem s122_eq (s : ByteArray) : norm s122 [.v (.string s)] = s122 [.v (.string s)] := rfl
noncomputable def G122 : Gam := [(119, .body, norm s119), (159, .body, norm s159), (171, .body, norm s171), (186, .body, norm s186)]
theorem G122_ok : Gk Tryz.prog G122 := Gc sound_119 (Gc sound_159 (Gc sound_171 (Gc sound_186 Gn)))
theorem k122_119 : lk G122 119 = some (.body, norm s119) := rfl
theorem k122_159 : lk G122 159 = some (.body, norm s159) := rfl
theorem k122_171 : lk G122 171 = some (.body, norm s171) := rfl
theorem k122_186 : lk G122 186 = some (.body, norm s186) := rfl
theorem wk122 (s : ByteArray) (hp : s.size ≤ 100000) : awp ty G122 (code Tryz.f122) (retP ty Tryz.f122.results.toList (.many [.v (.int .i64 (expV s.data.toList)), .v (.bool (expOk s.data.toList))])) (entry 0 [.v (.string s)]) [] := by
  unfold code
  simp only [Tryz.f122, Option.getD_some]
  obtain ⟨l, rfl⟩ : ∃ l, s = bs l := ⟨_, Bt s⟩
  rw [Bz] at hp
  rw [Bd]
  have hsl := sgnR_len l
  have hbl := bare_len (sgnR l)
  have hX : (!(sgnR l).isEmpty && (sgnR l).all isDg) = expOk l := rfl
  have hno := fun h : expOk l = false => (show expV l = 0 by unfold expV; rw [h]; rfl)
  have hre := fun h : expOk l = true => rexp h
  obtain ⟨m, hm⟩ : ∃ m, sgnR l = m := ⟨_, rfl⟩
  rw [hm] at hsl hbl hX hre
  obtain ⟨x, hx⟩ : ∃ x, bare m = x := ⟨_, rfl⟩
  rw [hx] at hbl hre
  rcases Bool.eq_false_or_eq_true (expOk l) with hO | hO
  case' inl =>
    obtain ⟨e1, e2, e3, e4, e5⟩ := hre hO
    rw [hO]
  all_goals repeat' (first
 | ((with_reducible first | (refine ZA ?_; intro X hX) | (refine ZB ?_; intro X hX) | (show awp _ _ _ _ (Kp _ _) _) | refine ZD ?_ | refine ZE ?_ | refine ZF ?_ | ((show Bg _ _ _ _ _); simp only [hall]) | (refine ZR ?_ ?_ <;> intro hb <;> (try simp only [hb]) <;> have hq := hb <;> try simp only [HQ] at hq)) <;> try simp only [Go.AM.SS, Nat.reduceAdd, Nat.reduceMul, Nat.reduceSub, ↓reduceIte, Nat.reduceEqDiff, Nat.reduceLT, Nat.reduceLeDiff, reduceCtorEq, Int.reduceBEq, Int.reduceBNe, Nat.reduceBEq, Int.reduceEq, Int.reduceToNat, Int.reduceLE, Int.reduceLT, Nat.reduceDiv, Int.reduceAdd, Int.reduceSub, Int.reduceMul, Int.reduceNeg, Int.reduceGT, Int.reduceGE, Nat.reduceMod, k122_119, s119.eq_1, s119_eq, k122_159, s159.eq_1, s159_eq, k122_171, s171.eq_1, s171_eq, k122_186, s186.eq_1, s186_eq, ty_3, ty_4, ty_5, ty_9, bs_lit, bs_app, Bz, bs_beq, Bi, Bd, Be, bt_bs, List.length_append, List.append_nil, List.nil_append, List.cons_append, hm, hx, hX, hO])
 | with_reducible first
 | (refine hX _ _ ?_; clear hX X)
 | (refine ZG ?_; try clear hall all)
 | (refine ZH ?_; try clear hall all)
 | (refine hK _ _ ?_; clear hK K)
 | refine ZL ?_
 | (refine v_0 _ _ ?_; try clear v_0 V_0)
 | (refine v_1 _ _ ?_; try clear v_1 V_1)
 | (refine v_2 _ _ ?_; try clear v_2 V_2)
    | (with_reducible refine awp_lp (c := .seq (.seq (.region 9 _ _) _) _) (σ := Nat) (fun k => k ≤ x.length) (fun k => [(4, .v (.bool (sgnN l))), (5, .v (.string (bs x))), (6, .v (.int .i64 (dv (x.take k)))), (7, .v (.int .i64 k))]) (fun k => []) (fun k => x.length - k) 0 ?_ ?_ (fun k hk => ?_))
 | ((first | refine qr 16 [2,3] ?_ | refine Zh (a := .seq (.region 14 _ _) _) [6] ?_ | refine Zh (a := .seq (.region 6 _ _) _) [4,6] ?_ | refine qr 5 [4,5,6] ?_ | refine qr 4 [4,5] ?_ | refine Zh (a := .seq (.region 2 _ _) _) [4,5] ?_ | refine qr 1 [4,5] ?_ | refine qr 0 [0] ?_); intro V_0 v_0)
 | ((first | refine qr 14 [6,52] ?_ | refine qb 1 [4,5,6,7] ?_ | refine Zh (a := .seq (.region 9 _ _) _) [4,5,6,7] ?_ | refine qr 8 [4,5,6,7] ?_ | refine qr 7 [4,5,6] ?_ | refine qr 12 [4,5,6,41] ?_ | refine qr 6 [4,5,6,20] ?_ | refine qr 3 [2,3] ?_ | refine qr 2 [4,5,15] ?_); intro V_1 v_1)
 | ((first | refine qr 9 [4,5,6,7,24] ?_); intro V_2 v_2)
 | (refine ZM ?_; intro K hK)
 | (refine ZN ?_; intro all hall K hK)
 | (refine ZO ?_ ?_; kernel_rfl; intro all hall K hK)
 | (refine ZQ ?_ ?_)
 | (refine ZK ?_; kernel_rfl)
 | (refine Zg ?_; simp only [↓reduceIte, Nat.reduceEqDiff])
 | refine ZS ?_ | refine ZT ?_ | refine ZU ?_ | refine ZV ?_ | refine ZW ?_ | refine ZX ?_ | refine ZY ?_ | refine ZZ ?_ | refine Za ?_ | refine Ze ?_ | refine Zf ?_)
  all_goals try clear v_2 V_2
  all_goals try clear v_1 V_1
  all_goals try clear v_0 V_0
  all_goals (try simp only [inR])
  all_goals (try omega)
  all_goals (try (rw [hno hO]; done))
  · refine Eo [] rfl ?_ ?_ <;> simp [Me, Sl, AvLe, lk, dv]
  all_goals (try (
    have hv := dv_lt _ (drop_all e2 k).2
    have he : 10 ^ (List.take k x).length ≤ 10 ^ 9 := Nat.pow_le_pow_right (by decide) (by rw [List.length_take]; omega)))
  all_goals (try (
    have hc := all_getD e2 (show k < x.length by omega)
    have hs := dv_take (l := x) (show k < x.length by omega)))
  all_goals (try (
    have hT := ten_lo e2 e3 (by assumption) (by assumption)
    have hT2 : List.take (x.length - 2) (List.drop 2 x) = x.drop 2 := List.take_of_length_le (by rw [List.length_drop]; omega)
    have hT3 := all_getD e2 (show 1 < x.length by omega)
    rw [hT2]))
  all_goals (try (have hH := ten_hi e2 e3 (by assumption) (by assumption)))
  all_goals (try (have hB := big_hi e2 e3 (by omega)))
  all_goals (try (rw [List.take_of_length_le (show x.length ≤ k by omega)] at hv he ⊢))
  all_goals first
    | omega
    | exact ⟨(drop_all e2 2).1, by rw [List.length_drop]; omega⟩
    | (refine ⟨k + 1, ?_, by omega, by omega⟩
       rw [show 10 * ((dv (List.take k x) : Nat) : Int) + (((x.getD k 0).toNat : Int) - 48) % 256 = ((dv (List.take (k + 1) x) : Nat) : Int) by rw [hs]; omega]
       refine Eo [] rfl ?_ ?_ <;> simp [Me, Sl, AvLe, lk]; done)
    | (rw [e4 hq]; congr 1; omega)
    | (rw [e5 hq]; congr 1; omega)
    | skip
theorem sound_122 : Sound Tryz.prog 122 .body (norm s122) := by
  refine sb Tryz.func122 rfl (by kernel_rfl) G122_ok (by kernel_rfl) fun ds p r hs hp => ?_
  unfold s122 at hs
  split at hs
  · cases hs; exact ⟨Nat.le_of_ble_eq_true (by kernel_rfl), wk122 _ hp⟩
  · cases hs
noncomputable def s157 : Cs := fun ds => match ds with
  | [.v (.string s)] => some (s.size ≤ 4000, .many [.v (.agg #[.int .i64 (wC s.data.toList), .bool false, .bool (wQ s.data.toList), .string (bs (wD s.data.toList)), .int .i64 0]), .v (.bool (wOk s.data.toList))])
  | _ => none
theorem s157_eq (s : ByteArray) : norm s157 [.v (.string s)] = s157 [.v (.string s)] := rfl
noncomputable def G157 : Gam := [(120, .body, norm lSmall), (159, .body, norm s159), (171, .body, norm s171)]
theorem G157_ok : Gk Tryz.prog G157 := Gc snd_lSmall (Gc sound_159 (Gc sound_171 Gn))
theorem k157_120 : lk G157 120 = some (.body, norm lSmall) := rfl
theorem k157_159 : lk G157 159 = some (.body, norm s159) := rfl
theorem k157_171 : lk G157 171 = some (.body, norm s171) := rfl
theorem wk157 (s : ByteArray) (hp : s.size ≤ 4000) : awp ty G157 (code Tryz.f157) (retP ty Tryz.f157.results.toList (.many [.v (.agg #[.int .i64 (wC s.data.toList), .bool false, .bool (wQ s.data.toList), .string (bs (wD s.data.toList)), .int .i64 0]), .v (.bool (wOk s.data.toList))])) (entry 0 [.v (.string s)]) [] := by
  unfold code
  simp only [Tryz.f157, Option.getD_some]
  obtain ⟨l, rfl⟩ : ∃ l, s = bs l := ⟨_, Bt s⟩
  rw [Bz] at hp
  rw [Bd]
  have hw : wV l = gWord (l.map lowB) := rfl
  have hml : (l.map lowB).length = l.length := List.length_map ..
  obtain ⟨m, hm⟩ : ∃ m, l.map lowB = m := ⟨_, rfl⟩
  rw [hm] at hw hml
  have hcase : ∃ (a r : List UInt8) (q : Bool), WH m a r q ∧ ((m = [] ∧ a = m ∧ q = false) ∨ ((∃ c x, m = c :: x ∧ c ≠ 115) ∧ a = m ∧ q = false) ∨ (∃ x, m = 115 :: x ∧ a = x ∧ q = true)) := by
    cases m with
    | nil => exact ⟨[], _, false, wh_n (.inl rfl), .inl ⟨rfl, rfl, rfl⟩⟩
    | cons c x =>
      by_cases hc : c = 115
      · subst hc; exact ⟨x, _, true, wh_s, .inr (.inr ⟨x, rfl, rfl, rfl⟩)⟩
      · exact ⟨c :: x, _, false, wh_n (.inr ⟨c, x, rfl, hc⟩), .inr (.inl ⟨⟨c, x, rfl, hc⟩, rfl, rfl⟩)⟩
  obtain ⟨a, r, q, hH, hcase⟩ := hcase
  have hr := hH.hr
  have hT3 : List.take (a.length - 3) (List.drop 3 a) = r := by rw [hr]; exact List.take_of_length_le (by rw [List.length_drop]; omega)
  have hT4 : List.take (r.length - 1 - 1) (List.drop 1 r) = gIn r := by unfold gIn; congr 1
  have hrl : r.length ≤ a.length := by rw [hr, List.length_drop]; omega
  have hN : ((r.length : Int) - 1).toNat = r.length - 1 := by omega
  have hgl := gIn_len r
  rcases hcase with ⟨rfl, rfl, rfl⟩ | ⟨⟨c, x, hmx, hc⟩, rfl, rfl⟩ | ⟨x, hmx, rfl, rfl⟩
  case' inl =>
    have gl : decide (([] : List UInt8).length > 0) = false := rfl
    have gq : decide ((4 : Int) ≥ 5) = false := rfl
    have hT1 : decide ((4 : Int) ≥ 5) = false := rfl
    have hal : ([] : List UInt8).length ≤ l.length := Nat.zero_le _
  case' inr.inl =>
    have gl : decide ((a.length : Int) > 0) = true := by rw [hmx]; simp
    have gq : (((a.getD 0 0).toNat : Int) == 115) = false := by
      rw [beq_eq_false_iff_ne]
      intro h
      rw [hmx] at h
      exact hc (u8_of (k := 115) h)
    have hT1 : decide ((4 : Int) ≥ 5) = false := rfl
    have hmp : 0 < a.length := by rw [hmx]; simp
    have hal : a.length ≤ l.length := Nat.le_of_eq hml
  case' inr.inr =>
    have gl : decide ((m.length : Int) > 0) = true := by rw [hmx]; simp
    have gq : (((m.getD 0 0).toNat : Int) == 115) = true := by rw [hmx]; rfl
    have hT1 : List.take (m.length - 1) (List.drop 1 m) = a := by rw [hmx]; simp
    have hmp : 0 < m.length := by rw [hmx]; simp
    have hal : a.length ≤ l.length := by rw [← hml, hmx]; simp
  all_goals repeat' (first
 | ((with_reducible first | (refine ZA ?_; intro X hX) | (refine ZB ?_; intro X hX) | (show awp _ _ _ _ (Kp _ _) _) | (refine hX _ _ _ _ ?_; clear hX X) | (refine ZC ?_; intro X hX) | refine ZD ?_ | refine ZE ?_ | refine ZF ?_ | ((show Bg _ _ _ _ _); simp only [hall]) | (refine ZR ?_ ?_ <;> intro hb <;> (try simp only [hb]) <;> have hq := hb <;> try simp only [HQ] at hq)) <;> try simp only [Go.AM.SS, Nat.reduceAdd, Nat.reduceMul, Nat.reduceSub, ↓reduceIte, Nat.reduceEqDiff, Nat.reduceLT, Nat.reduceLeDiff, reduceCtorEq, Int.reduceBEq, Int.reduceBNe, Nat.reduceBEq, Int.reduceEq, Int.reduceToNat, Int.reduceLE, Int.reduceLT, Nat.reduceDiv, Int.reduceAdd, Int.reduceSub, Int.reduceMul, Int.reduceNeg, Int.reduceGT, Int.reduceGE, Nat.reduceMod, k157_120, lSmall_eq, k157_159, s159.eq_1, s159_eq, k157_171, s171.eq_1, s171_eq, ty_3, ty_4, ty_5, ty_9, ty_42, bs_lit, bs_app, Bz, bs_beq, Bi, Bd, Be, bt_bs, List.length_append, List.append_nil, List.nil_append, List.cons_append, hm, List.length_drop, gl, gq, hT1, hT3, hT4, hN])
 | with_reducible first
 | (refine hX _ _ ?_; clear hX X)
 | (refine ZI ?_; try clear hall all)
 | (refine ZJ ?_; kernel_rfl)
 | ((show clashK _ _ _ = true); kernel_rfl)
 | (refine ZG ?_; try clear hall all)
 | (refine ZH ?_; try clear hall all)
 | (refine hK _ _ ?_; clear hK K)
 | refine ZL ?_
 | (refine v_0 _ _ ?_; try clear v_0 V_0)
 | (refine v_1 _ _ ?_; try clear v_1 V_1)
 | (refine v_2 _ _ ?_; try clear v_2 V_2)
 | ((first | refine qr 14 [2,3] ?_ | refine Zh (a := .seq (.region 10 _ _) _) [2,4] ?_ | refine qr 9 [0,2,4] ?_ | refine Zh (a := .seq (.region 7 _ _) _) [0,2,4] ?_ | refine Zh (a := .seq (.region 5 _ _) _) [0,2,4] ?_ | refine qr 4 [0,2,4] ?_ | refine Zh (a := .seq (.region 2 _ _) _) [0,2] ?_ | refine qr 1 [0,2] ?_ | refine qr 0 [0,2] ?_); intro V_0 v_0)
 | ((first | refine Zh (a := .seq (.region 11 _ _) _) [0,2,4] ?_ | refine qr 10 [0,2,4,39] ?_ | refine qr 8 [2,3] ?_ | refine qr 7 [0,2,4,33] ?_ | refine qr 5 [0,2,4,22] ?_ | refine qr 3 [2,3] ?_ | refine qr 2 [0,2,12] ?_); intro V_1 v_1)
 | ((first | refine qr 12 [2,3] ?_ | refine qr 11 [0,2,4,64] ?_); intro V_2 v_2)
 | (refine ZM ?_; intro K hK)
 | (refine ZN ?_; intro all hall K hK)
 | (refine Da (id := 6) ?_ ?_; kernel_rfl; intro all hall K hK)
 | (refine ZO ?_ ?_; kernel_rfl; intro all hall K hK)
 | (refine ZQ ?_ ?_)
 | (refine ZK ?_; kernel_rfl)
 | refine ZT ?_ | refine ZU ?_ | refine ZW ?_)
  all_goals try clear v_2 V_2
  all_goals try clear v_1 V_1
  all_goals try clear v_0 V_0
  all_goals (try simp only [inR])
  all_goals first
    | omega
    | exact Nat.le_trans hgl (by omega)
    | (have k := w_is2 hw (gw_i (by assumption)); rw [k.1, k.2.1, k.2.2.1, k.2.2.2]; exact ⟨rfl, rfl⟩)
    | (have k := w_is2 hw (gw_j (by assumption)); rw [k.1, k.2.1, k.2.2.1, k.2.2.2]; exact ⟨rfl, rfl⟩)
    | (have k := w_no2 hw (hH.no (by assumption) (by assumption) (by first | assumption | decide | (intro hh; have := congrArg List.length hh; rw [List.length_take] at this; simp at this; omega))); rw [k.1, k.2.1, k.2.2.1, k.2.2.2]; exact ⟨rfl, rfl⟩)
    | (have k := w_is2 hw ((hH.yes (by assumption) (by assumption) (by assumption)).trans (rt_nil (by assumption))); rw [k.1, k.2.1, k.2.2.1, k.2.2.2]; exact ⟨rfl, rfl⟩)
    | (have k := w_is2 hw ((hH.yes (by assumption) (by assumption) (by assumption)).trans (rt_ok (by assumption) (by assumption) (by assumption) (by rw [Bool.not_eq_false'] at hb; exact hb))); rw [k.1, k.2.1, k.2.2.1, k.2.2.2]; exact ⟨rfl, rfl⟩)
    | (have k := w_no2 hw ((hH.yes (by assumption) (by assumption) (by assumption)).trans (rt_len (by assumption) (by assumption))); rw [k.1, k.2.1, k.2.2.1, k.2.2.2]; exact ⟨rfl, rfl⟩)
    | (have k := w_no2 hw ((hH.yes (by assumption) (by assumption) (by assumption)).trans (rt_open (by assumption) (by assumption))); rw [k.1, k.2.1, k.2.2.1, k.2.2.2]; exact ⟨rfl, rfl⟩)
    | (have k := w_no2 hw ((hH.yes (by assumption) (by assumption) (by assumption)).trans (rt_shut (by assumption) (by assumption))); rw [k.1, k.2.1, k.2.2.1, k.2.2.2]; exact ⟨rfl, rfl⟩)
    | (have k := w_no2 hw ((hH.yes (by assumption) (by assumption) (by assumption)).trans (rt_dig (by assumption) (by rw [Bool.not_eq_true'] at hb; exact hb))); rw [k.1, k.2.1, k.2.2.1, k.2.2.2]; exact ⟨rfl, rfl⟩)
    | skip
theorem sound_157 : Sound Tryz.prog 157 .body (norm s157) := by
  refine sb Tryz.func157 rfl (by kernel_rfl) G157_ok (by kernel_rfl) fun ds p r hs hp => ?_
  unfold s157 at hs
  split at hs
  · cases hs; exact ⟨Nat.le_of_ble_eq_true (by kernel_rfl), wk157 _ hp⟩
  · cases hs
noncomputable def s158 : Cs := fun ds => match ds with
  | [.v (.string s)] => some (s.size ≤ 100000, .many [.v (.string (bs (gDig s.data.toList))), .v (.string (bs (gOff s.data.toList)))])
  | _ => none
theorem s158_eq (s : ByteArray) : norm s158 [.v (.string s)] = s158 [.v (.string s)] := rfl
noncomputable def G158 : Gam := []
theorem G158_ok : Gk Tryz.prog G158 := Gn
theorem wk158 (s : ByteArray) (hp : s.size ≤ 100000) : awp ty G158 (code Tryz.f158) (retP ty Tryz.f158.results.toList (.many [.v (.string (bs (gDig s.data.toList))), .v (.string (bs (gOff s.data.toList)))])) (entry 0 [.v (.string s)]) [] := by
  unfold code
  simp only [Tryz.f158, Option.getD_some]
  obtain ⟨l, rfl⟩ : ∃ l, s = bs l := ⟨_, Bt s⟩
  rw [Bz] at hp
  rw [Bd]
  all_goals repeat' (first
 | ((with_reducible first | (refine ZA ?_; intro X hX) | (refine ZB ?_; intro X hX) | (show awp _ _ _ _ (Kp _ _) _) | refine ZD ?_ | refine ZE ?_ | refine ZF ?_ | ((show Bg _ _ _ _ _); simp only [hall]) | (refine ZR ?_ ?_ <;> intro hb <;> (try simp only [hb]) <;> have hq := hb <;> try simp only [HQ] at hq)) <;> try simp only [Go.AM.SS, Nat.reduceAdd, Nat.reduceMul, Nat.reduceSub, ↓reduceIte, Nat.reduceEqDiff, Nat.reduceLT, Nat.reduceLeDiff, reduceCtorEq, Int.reduceBEq, Int.reduceBNe, Nat.reduceBEq, Int.reduceEq, Int.reduceToNat, Int.reduceLE, Int.reduceLT, Nat.reduceDiv, Int.reduceAdd, Int.reduceSub, Int.reduceMul, Int.reduceNeg, Int.reduceGT, Int.reduceGE, Nat.reduceMod, ty_3, ty_5, ty_9, bs_lit, bs_app, Bz, bs_beq, Bi, Bd, Be, bt_bs, List.length_append, List.append_nil, List.nil_append, List.cons_append, List.length_drop])
 | with_reducible first
 | (refine hX _ _ ?_; clear hX X)
 | (refine ZG ?_; try clear hall all)
 | (refine ZH ?_; try clear hall all)
 | (refine hK _ _ ?_; clear hK K)
 | refine ZL ?_
 | (refine v_0 _ _ ?_; try clear v_0 V_0)
 | (refine v_1 _ _ ?_; try clear v_1 V_1)
 | (refine v_2 _ _ ?_; try clear v_2 V_2)
    | (with_reducible refine awp_lp (c := .seq (.seq (.region 2 _ _) _) _) (σ := Nat) (fun k => k ≤ l.length ∧ (l.take k).all isDg = true) (fun k => [(0, .v (.string (bs l))), (4, .v (.int .i64 k))]) (fun k => []) (fun k => l.length - k) 0 ?_ ?_ (fun k hk => ?_))
 | ((first | refine qr 4 [2,3] ?_ | refine qb 0 [0,4] ?_ | refine qr 1 [0,4] ?_ | refine qr 0 [0] ?_); intro V_0 v_0)
 | ((first | refine Zh (a := .seq (.region 2 _ _) _) [0,4] ?_); intro V_1 v_1)
 | ((first | refine qr 2 [0,4,20] ?_); intro V_2 v_2)
 | (refine ZM ?_; intro K hK)
 | (refine ZN ?_; intro all hall K hK)
 | (refine ZO ?_ ?_; kernel_rfl; intro all hall K hK)
 | (refine ZQ ?_ ?_)
 | (refine ZK ?_; kernel_rfl)
 | (refine Zg ?_; simp only [↓reduceIte, Nat.reduceEqDiff])
 | refine ZS ?_ | refine ZT ?_ | refine ZU ?_ | refine ZV ?_ | refine ZW ?_ | refine ZX ?_ | refine ZY ?_ | refine ZZ ?_ | refine Za ?_ | refine Ze ?_ | refine Zf ?_)
  all_goals try clear v_2 V_2
  all_goals try clear v_1 V_1
  all_goals try clear v_0 V_0
  all_goals (try simp only [inR])
  all_goals first
    | omega
    | exact ⟨Nat.zero_le _, rfl⟩
    | ((refine Eo [] rfl ?_ ?_ <;> simp [Me, Sl, AvLe, lk]); done)
    | exact ⟨k + 1, (by (refine Eo [] rfl ?_ ?_ <;> simp [Me, Sl, AvLe, lk])), ⟨by omega, run_step (by assumption) hk.2 (by assumption) (by assumption)⟩, by omega⟩
    | (rw [(run_stop hk.2 (.inr (isDg_hi hq))).1, (run_stop hk.2 (.inr (isDg_hi hq))).2, List.take_of_length_le (i := l.length - k) (by simp)]; exact ⟨rfl, rfl⟩)
    | (rw [(run_stop hk.2 (.inr (isDg_lo hq))).1, (run_stop hk.2 (.inr (isDg_lo hq))).2, List.take_of_length_le (i := l.length - k) (by simp)]; exact ⟨rfl, rfl⟩)
    | (rw [(run_stop hk.2 (.inl hq)).1, (run_stop hk.2 (.inl hq)).2, List.take_of_length_le (i := l.length - k) (by simp)]; exact ⟨rfl, rfl⟩)
    | skip
theorem sound_158 : Sound Tryz.prog 158 .body (norm s158) := by
  refine sb Tryz.func158 rfl (by kernel_rfl) G158_ok (by kernel_rfl) fun ds p r hs hp => ?_
  unfold s158 at hs
  split at hs
  · cases hs; exact ⟨Nat.le_of_ble_eq_true (by kernel_rfl), wk158 _ hp⟩
  · cases hs
noncomputable def s94 : Cs := fun ds => match ds with
  | [.v (.string s)] => some (s.size ≤ 100000, .many [.v (.agg #[.int .i64 (gCut s.data.toList).c, .bool (gCut s.data.toList).s, .bool (gCut s.data.toList).q, .string (bs (gCut s.data.toList).d), .int .i64 (gCut s.data.toList).x]), .v (.int .i64 (gCut s.data.toList).e)])
  | _ => none
theorem s94_eq (s : ByteArray) : norm s94 [.v (.string s)] = s94 [.v (.string s)] := rfl
noncomputable def G94 : Gam := [(119, .body, norm s119), (122, .body, norm s122), (157, .body, norm s157), (158, .body, norm s158), (159, .body, norm s159)]
theorem G94_ok : Gk Tryz.prog G94 := Gc sound_119 (Gc sound_122 (Gc sound_157 (Gc sound_158 (Gc sound_159 Gn))))
theorem k94_119 : lk G94 119 = some (.body, norm s119) := rfl
theorem k94_122 : lk G94 122 = some (.body, norm s122) := rfl
theorem k94_157 : lk G94 157 = some (.body, norm s157) := rfl
theorem k94_158 : lk G94 158 = some (.body, norm s158) := rfl
theorem k94_159 : lk G94 159 = some (.body, norm s159) := rfl
theorem wk94 (s : ByteArray) (hp : s.size ≤ 100000) : awp ty G94 (code Tryz.f94) (retP ty Tryz.f94.results.toList (.many [.v (.agg #[.int .i64 (gCut s.data.toList).c, .bool (gCut s.data.toList).s, .bool (gCut s.data.toList).q, .string (bs (gCut s.data.toList).d), .int .i64 (gCut s.data.toList).x]), .v (.int .i64 (gCut s.data.toList).e)])) (entry 0 [.v (.string s)]) [] := by
  unfold code
  simp only [Tryz.f94, Option.getD_some]
  obtain ⟨l, rfl⟩ : ∃ l, s = bs l := ⟨_, Bt s⟩
  rw [Bz] at hp
  rw [Bd]
  have hml := sgnR_len l
  obtain ⟨m, hm⟩ : ∃ m, sgnR l = m := ⟨_, rfl⟩
  rw [hm] at hml
  have hlw := gOff_len m
  obtain ⟨W, hW⟩ : ∃ x, gDig m = x := ⟨_, rfl⟩
  obtain ⟨O, hO⟩ : ∃ x, gOff m = x := ⟨_, rfl⟩
  rw [hW, hO] at hlw
  obtain ⟨P, hP'⟩ : ∃ x, gPart O = x := ⟨_, rfl⟩
  obtain ⟨R, hR'⟩ : ∃ x, gRest O = x := ⟨_, rfl⟩
  have hlp : P.length + R.length ≤ O.length := by
    rw [← hP', ← hR']
    unfold gPart gRest
    split
    · have := gOff_len (O.drop 1); rw [List.length_drop] at this; omega
    · simp
  have hT : List.take (R.length - 1) (List.drop 1 R) = R.drop 1 := List.take_of_length_le (by rw [List.length_drop]; omega)
  have hd1 : (R.drop 1).length ≤ R.length := by rw [List.length_drop]; omega
  have hxb := expV_b (R.drop 1)
  have hO1 : List.take (O.length - 1) (List.drop 1 O) = O.drop 1 := List.take_of_length_le (by rw [List.length_drop]; omega)
  have hod : (O.drop 1).length ≤ O.length := by rw [List.length_drop]; omega
  have hP2 := (congrArg gPart hO).trans hP'
  have hR2 := (congrArg gRest hO).trans hR'
  rcases part_cases O with ⟨p1, p2, p3⟩ | ⟨⟨p0, p1⟩, p2, p3⟩ | ⟨⟨p0, p1⟩, p2, p3⟩
  case' inl =>
    obtain rfl : P = [] := hP'.symm.trans p2
    obtain rfl : R = [] := hR'.symm.trans p3
    have gO : decide ((O.length : Int) > 0) = false := by rw [p1]; rfl
    have g46 : decide ((4 : Int) ≥ 5) = false := rfl
    have hP : decide ((4 : Int) ≥ 5) = false := rfl
    have hR : decide ((4 : Int) ≥ 5) = false := rfl
  case' inr.inl =>
    obtain rfl : P = [] := hP'.symm.trans p2
    obtain rfl : R = O := hR'.symm.trans p3
    have gO : decide ((R.length : Int) > 0) = true := by rw [decide_eq_true]; omega
    have g46 : (((R.getD 0 0).toNat : Int) == 46) = false := by rw [beq_eq_false_iff_ne]; exact p1
    have hP : decide ((4 : Int) ≥ 5) = false := rfl
    have hR : decide ((4 : Int) ≥ 5) = false := rfl
  case' inr.inr =>
    have gO : decide ((O.length : Int) > 0) = true := by rw [decide_eq_true]; omega
    have g46 : (((O.getD 0 0).toNat : Int) == 46) = true := by rw [beq_iff_eq]; exact p1
    have hP : gDig (O.drop 1) = P := p2.symm.trans hP'
    have hR : gOff (O.drop 1) = R := p3.symm.trans hR'
  all_goals repeat' (first
 | ((with_reducible first | (refine ZA ?_; intro X hX) | (show awp _ _ _ _ (Kp _ _) _) | refine ZD ?_ | refine ZE ?_ | refine ZF ?_ | ((show Bg _ _ _ _ _); simp only [hall]) | (refine ZR ?_ ?_ <;> intro hb <;> (try simp only [hb]) <;> have hq := hb <;> try simp only [HQ] at hq)) <;> try simp only [Go.AM.SS, Nat.reduceAdd, Nat.reduceMul, Nat.reduceSub, ↓reduceIte, Nat.reduceEqDiff, Nat.reduceLT, Nat.reduceLeDiff, reduceCtorEq, Int.reduceBEq, Int.reduceBNe, Nat.reduceBEq, Int.reduceEq, Int.reduceToNat, Int.reduceLE, Int.reduceLT, Nat.reduceDiv, Int.reduceAdd, Int.reduceSub, Int.reduceMul, Int.reduceNeg, Int.reduceGT, Int.reduceGE, Nat.reduceMod, k94_119, s119.eq_1, s119_eq, k94_122, s122.eq_1, s122_eq, k94_157, s157.eq_1, s157_eq, k94_158, s158.eq_1, s158_eq, k94_159, s159.eq_1, s159_eq, ty_3, ty_4, ty_5, ty_9, ty_42, bs_lit, bs_app, Bz, bs_beq, Bi, Bd, Be, bt_bs, List.length_append, List.append_nil, List.nil_append, List.cons_append, hm, hW, hO, gO, g46, hO1, hP, hR, hT, List.length_nil])
 | with_reducible first
 | (refine hX _ _ ?_; clear hX X)
 | (refine ZG ?_; try clear hall all)
 | (refine hK _ _ ?_; clear hK K)
 | refine ZL ?_
 | (refine v_0 _ _ ?_; try clear v_0 V_0)
 | (refine v_1 _ _ ?_; try clear v_1 V_1)
 | (refine v_2 _ _ ?_; try clear v_2 V_2)
 | ((first | refine qr 22 [2,3] ?_ | refine Zh (a := .seq (.region 15 _ _) _) [2,4,7,9,10] ?_ | refine qr 14 [2,4,7,8,9,10] ?_ | refine Zh (a := .seq (.region 12 _ _) _) [2,4,7,8,9] ?_ | refine Zh (a := .seq (.region 10 _ _) _) [2,4,7,8,9] ?_ | refine qr 9 [2,4,7,8,9] ?_ | refine qr 8 [2,4,7,8] ?_ | refine Zh (a := .seq (.region 5 _ _) _) [0,2,4] ?_ | refine qr 4 [0,2,4,5,6] ?_ | refine qr 3 [0,2,4] ?_ | refine Zh (a := .seq (.region 1 _ _) _) [0,2] ?_ | refine qr 0 [0,2] ?_); intro V_0 v_0)
 | ((first | refine Zh (a := .seq (.region 19 _ _) _) [2,4,7,9,11] ?_ | refine qr 18 [2,4,7,9,11,12] ?_ | refine Zh (a := .seq (.region 16 _ _) _) [2,4,7,8,9] ?_ | refine qr 15 [2,4,7,8,9,10,59] ?_ | refine qr 13 [2,3] ?_ | refine qr 12 [2,4,7,8,9,55] ?_ | refine qr 10 [2,4,7,8,9,43] ?_ | refine qr 7 [2,3] ?_ | refine qr 6 [2,5] ?_ | refine qr 5 [0,2,4,5,27] ?_ | refine qr 2 [2,3] ?_ | refine qr 1 [0,2,15] ?_); intro V_1 v_1)
 | ((first | refine qr 20 [2,3] ?_ | refine qr 19 [2,4,7,9,11,76] ?_ | refine qr 17 [2,3] ?_ | refine qr 16 [2,4,7,8,9,67] ?_); intro V_2 v_2)
 | (refine ZM ?_; intro K hK)
 | (refine ZN ?_; intro all hall K hK)
 | (refine ZQ ?_ ?_)
 | refine ZT ?_ | refine ZU ?_ | refine ZW ?_)
  all_goals try clear v_2 V_2
  all_goals try clear v_1 V_1
  all_goals try clear v_0 V_0
  all_goals (try simp only [inR])
  all_goals first
    | omega
    | (have k := gCut_long (l := l) (by omega); rw [k]; exact ⟨rfl, rfl⟩)
    | (rw [gCut_word (by omega) (by rw [hm]; assumption), hm]; exact ⟨rfl, rfl⟩)
    | (have k := (gCut_num (l := l) (by omega) (by rw [hm]; assumption)); rw [hm, gn1 hW hP2 hR2 (by first | exact app_nil (by assumption) (by assumption) | exact app_nil (by assumption) rfl)] at k; (try simp only [List.append_nil] at k); rw [k]; exact ⟨rfl, rfl⟩)
    | (have k := (gCut_num (l := l) (by omega) (by rw [hm]; assumption)); rw [hm, gn2 hW hP2 hR2 (by first | omega | exact Nat.zero_le _) (by first | exact app_ne1 (by assumption) | exact app_ne2 (by assumption)) (by first | rfl | exact nil_of (by assumption))] at k; (try simp only [List.append_nil] at k); rw [k]; exact ⟨rfl, rfl⟩)
    | (have k := (gCut_num (l := l) (by omega) (by rw [hm]; assumption)); rw [hm, gn3 hW hP2 hR2 (by first | exact app_ne1 (by assumption) | exact app_ne2 (by assumption)) (by first | exact ne_of (by assumption) | (exact List.length_pos_iff.1 (by omega))) (by assumption) (by assumption)] at k; (try simp only [List.append_nil] at k); rw [k]; exact ⟨rfl, rfl⟩)
    | (have k := (gCut_num (l := l) (by omega) (by rw [hm]; assumption)); rw [hm, gn4 hW hP2 hR2 (by first | exact app_ne1 (by assumption) | exact app_ne2 (by assumption)) (by first | exact ne_of (by assumption) | (exact List.length_pos_iff.1 (by omega))) (.inl (by assumption)) (by assumption)] at k; (try simp only [List.append_nil] at k); rw [k]; exact ⟨rfl, rfl⟩)
    | (have k := (gCut_num (l := l) (by omega) (by rw [hm]; assumption)); rw [hm, gn4 hW hP2 hR2 (by first | exact app_ne1 (by assumption) | exact app_ne2 (by assumption)) (by first | exact ne_of (by assumption) | (exact List.length_pos_iff.1 (by omega))) (.inr (by assumption)) (by assumption)] at k; (try simp only [List.append_nil] at k); rw [k]; exact ⟨rfl, rfl⟩)
    | (have k := (gCut_num (l := l) (by omega) (by rw [hm]; assumption)); rw [hm, gn5 hW hP2 hR2 (by first | exact app_ne1 (by assumption) | exact app_ne2 (by assumption)) (by first | exact ne_of (by assumption) | (exact List.length_pos_iff.1 (by omega))) (.inl (by assumption)) (by assumption)] at k; (try simp only [List.append_nil] at k); rw [k]; exact ⟨rfl, rfl⟩)
    | (have k := (gCut_num (l := l) (by omega) (by rw [hm]; assumption)); rw [hm, gn5 hW hP2 hR2 (by first | exact app_ne1 (by assumption) | exact app_ne2 (by assumption)) (by first | exact ne_of (by assumption) | (exact List.length_pos_iff.1 (by omega))) (.inr (by assumption)) (by assumption)] at k; (try simp only [List.append_nil] at k); rw [k]; exact ⟨rfl, rfl⟩)
    | skip
theorem sound_94 : Sound Tryz.prog 94 .body (norm s94) := by
  refine sb Tryz.func94 rfl (by kernel_rfl) G94_ok (by kernel_rfl) fun ds p r hs hp => ?_
  unfold s94 at hs
  split at hs
  · cases hs; exact ⟨Nat.le_of_ble_eq_true (by kernel_rfl), wk94 _ hp⟩
  · cases hs
noncomputable def s33 : Cs := fun ds => match ds with
  | [.v (.int .i64 n), .v (.int .i64 r), .v (.string s)] => some (s.size ≤ 20000, .many [.v (.agg #[.int .u64 (w4 (rdV n r s.data.toList) 0), .int .u64 (w4 (rdV n r s.data.toList) 1), .int .u64 (w4 (rdV n r s.data.toList) 2), .int .u64 (w4 (rdV n r s.data.toList) 3)]), .v (.int .i64 (rdF n r s.data.toList)), .v (.int .i64 (rdE n r s.data.toList))])
  | _ => none
theorem s33_eq (n : Int) (r : Int) (s : ByteArray) : norm s33 [.v (.int .i64 n), .v (.int .i64 r), .v (.string s)] = s33 [.v (.int .i64 n), .v (.int .i64 r), .v (.string s)] := rfl
noncomputable def G33 : Gam := [(35, .body, norm s35), (37, .body, norm s37), (44, .body, norm s44), (94, .body, norm s94)]
theorem G33_ok : Gk Tryz.prog G33 := Gc sound_35 (Gc sound_37 (Gc sound_44 (Gc sound_94 Gn)))
theorem k33_35 : lk G33 35 = some (.body, norm s35) := rfl
theorem k33_37 : lk G33 37 = some (.body, norm s37) := rfl
theorem k33_44 : lk G33 44 = some (.body, norm s44) := rfl
theorem k33_94 : lk G33 94 = some (.body, norm s94) := rfl
theorem wk33 (n : Int) (r : Int) (s : ByteArray) (hp : s.size ≤ 20000) : awp ty G33 (code Tryz.f33) (retP ty Tryz.f33.results.toList (.many [.v (.agg #[.int .u64 (w4 (rdV n r s.data.toList) 0), .int .u64 (w4 (rdV n r s.data.toList) 1), .int .u64 (w4 (rdV n r s.data.toList) 2), .int .u64 (w4 (rdV n r s.data.toList) 3)]), .v (.int .i64 (rdF n r s.data.toList)), .v (.int .i64 (rdE n r s.data.toList))])) (entry 0 [.v (.int .i64 n), .v (.int .i64 r), .v (.string s)]) [] := by
  unfold code
  simp only [Tryz.f33, Option.getD_some]
  obtain ⟨l, rfl⟩ : ∃ l, s = bs l := ⟨_, Bt s⟩
  rw [Bz] at hp
  rw [Bd]
  have hV0 : V4 0 0 0 0 = 0 := rfl
  have hc : ¬ (1 ≤ n ∧ n ≤ 6) ∨ ((1 ≤ n ∧ n ≤ 6) ∧ ¬ (0 ≤ r ∧ r ≤ 4)) ∨ ((1 ≤ n ∧ n ≤ 6) ∧ 0 ≤ r ∧ r ≤ 4) := by omega
  rcases hc with hn | ⟨hn, hr⟩ | ⟨hn, hr⟩
  case' inl =>
    rw [(rd_no (okR_n hn)).1, (rd_no (okR_n hn)).2.1, (rd_no (okR_n hn)).2.2]
    have gk : (decide (n ≥ 1) && decide (n ≤ 6)) = false := by
      rw [Bool.and_eq_false_iff, decide_eq_false_iff_not, decide_eq_false_iff_not]; omega
    have gR : decide ((4 : Int) ≥ 5) = false := rfl
  case' inr.inl =>
    rw [(rd_no (okR_d hr)).1, (rd_no (okR_d hr)).2.1, (rd_no (okR_d hr)).2.2]
    have gk : (decide (n ≥ 1) && decide (n ≤ 6)) = true := by rw [decide_eq_true (by omega : n ≥ 1), decide_eq_true (by omega : n ≤ 6)]; rfl
    have gR : (decide (r ≥ 0) && decide (r ≤ 4)) = false := by
      rw [Bool.and_eq_false_iff, decide_eq_false_iff_not, decide_eq_false_iff_not]; omega
  case' inr.inr =>
    have hR := okR_y hn hr
    have gk : (decide (n ≥ 1) && decide (n ≤ 6)) = true := by rw [decide_eq_true (by omega : n ≥ 1), decide_eq_true (by omega : n ≤ 6)]; rfl
    have gR : (decide (r ≥ 0) && decide (r ≤ 4)) = true := by rw [decide_eq_true (by omega : r ≥ 0), decide_eq_true (by omega : r ≤ 4)]; rfl
  all_goals repeat' (first
 | ((with_reducible first | (refine ZA ?_; intro X hX) | (show awp _ _ _ _ (Kp _ _) _) | refine ZD ?_ | refine ZE ?_ | refine ZF ?_ | ((show Bg _ _ _ _ _); simp only [hall]) | (refine ZR ?_ ?_ <;> intro hb <;> (try simp only [hb]) <;> have hq := hb <;> try simp only [HQ] at hq)) <;> try simp only [Go.AM.SS, Nat.reduceAdd, Nat.reduceMul, Nat.reduceSub, ↓reduceIte, Nat.reduceEqDiff, Nat.reduceLT, Nat.reduceLeDiff, reduceCtorEq, Int.reduceBEq, Int.reduceBNe, Nat.reduceBEq, Int.reduceEq, Int.reduceToNat, Int.reduceLE, Int.reduceLT, Nat.reduceDiv, Int.reduceAdd, Int.reduceSub, Int.reduceMul, Int.reduceNeg, Int.reduceGT, Int.reduceGE, Nat.reduceMod, k33_35, s35.eq_1, s35_eq, k33_37, s37.eq_1, s37_eq, k33_44, s44.eq_1, s44_eq, k33_94, s94.eq_1, s94_eq, ty_3, ty_4, ty_9, ty_22, ty_24, ty_26, ty_42, bs_lit, bs_app, Bz, bs_beq, Bi, Bd, Be, bt_bs, List.length_append, List.append_nil, List.nil_append, List.cons_append, hV0, gk, gR])
 | with_reducible first
 | (refine hX _ _ ?_; clear hX X)
 | (refine ZG ?_; try clear hall all)
 | (refine hK _ _ ?_; clear hK K)
 | refine ZL ?_
 | (refine v_0 _ _ ?_; try clear v_0 V_0)
 | (refine v_1 _ _ ?_; try clear v_1 V_1)
 | ((first | refine qr 6 [6,7,8] ?_ | refine Zh (a := .seq (.region 4 _ _) _) [0,1,6,9] ?_ | refine qr 3 [0,1,6,9,10] ?_ | refine Zh (a := .seq (.region 1 _ _) _) [0,1,2,6] ?_ | refine qr 0 [0,1,2,6] ?_); intro V_0 v_0)
 | ((first | refine qr 5 [6,7,8] ?_ | refine qr 4 [0,1,6,9,10,26] ?_ | refine qr 2 [6,7,8] ?_ | refine qr 1 [0,1,2,6,18] ?_); intro V_1 v_1)
 | (refine ZM ?_; intro K hK)
 | (refine ZN ?_; intro all hall K hK)
 | (refine ZQ ?_ ?_)
 | refine ZT ?_ | refine ZU ?_ | refine ZW ?_)
  all_goals try clear v_1 V_1
  all_goals try clear v_0 V_0
  all_goals (try simp only [inR])
  all_goals first
    | omega
    | (simp only [w4_0]; done)
    | (rw [(rd_bad hR hq).1, (rd_bad hR hq).2.1, (rd_bad hR hq).2.2]; simp [w4_0]; done)
    | (have hq2 := gCut_b hq; exact ⟨by omega, by omega, by omega⟩)
    | (rw [(rd_ok hR (by assumption)).1, (rd_ok hR (by assumption)).2.1, (rd_ok hR (by assumption)).2.2]; exact ⟨rfl, rfl, rfl⟩)
    | skip
theorem sound_33 : Sound Tryz.prog 33 .body (norm s33) := by
  refine sb Tryz.func33 rfl (by kernel_rfl) G33_ok (by kernel_rfl) fun ds p r hs hp => ?_
  unfold s33 at hs
  split at hs
  · cases hs; exact ⟨Nat.le_of_ble_eq_true (by kernel_rfl), wk33 _ _ _ hp⟩
  · cases hs
noncomputable def s7 : Cs := fun ds => match ds with
  | [.v (.int .i64 n), .v (.int .i64 r), .v (.string s)] => some (True, .one (.v (.bool true)))
  | _ => none
noncomputable def G7 : Gam := [(31, .body, norm s31), (32, .body, norm s32), (33, .body, norm s33)]
theorem G7_ok : Gk Tryz.prog G7 := Gc sound_31 (Gc sound_32 (Gc sound_33 Gn))
theorem k7_31 : lk G7 31 = some (.body, norm s31) := rfl
theorem k7_32 : lk G7 32 = some (.body, norm s32) := rfl
theorem k7_33 : lk G7 33 = some (.body, norm s33) := rfl
theorem wk7 (n : Int) (r : Int) (s : ByteArray) (hp : True) : awp ty G7 (code Tryz.f7) (retP ty Tryz.f7.results.toList (.one (.v (.bool true)))) (entry 0 [.v (.int .i64 n), .v (.int .i64 r), .v (.string s)]) [] := by
  unfold code
  simp only [Tryz.f7, Option.getD_some]
  obtain ⟨l, rfl⟩ : ∃ l, s = bs l := ⟨_, Bt s⟩
  all_goals repeat' (first
 | ((with_reducible first | (refine ZA ?_; intro X hX) | (show awp _ _ _ _ (Kp _ _) _) | refine ZD ?_ | refine ZE ?_ | refine ZF ?_ | ((show Bg _ _ _ _ _); simp only [hall]) | (refine ZR ?_ ?_ <;> intro hb <;> (try simp only [hb]) <;> have hq := hb <;> try simp only [HQ] at hq)) <;> try simp only [Go.AM.SS, Nat.reduceAdd, Nat.reduceMul, Nat.reduceSub, ↓reduceIte, Nat.reduceEqDiff, Nat.reduceLT, Nat.reduceLeDiff, reduceCtorEq, Int.reduceBEq, Int.reduceBNe, Nat.reduceBEq, Int.reduceEq, Int.reduceToNat, Int.reduceLE, Int.reduceLT, Nat.reduceDiv, Int.reduceAdd, Int.reduceSub, Int.reduceMul, Int.reduceNeg, Int.reduceGT, Int.reduceGE, Nat.reduceMod, k7_31, s31.eq_1, s31_eq, k7_32, s32.eq_1, s32_eq, k7_33, s33.eq_1, s33_eq, ty_3, ty_4, ty_9, ty_22, ty_24, ty_26, beq_self_eq_true, bs_lit, bs_app, Bz, bs_beq, Bi, Bd, Be, bt_bs, List.length_append, List.append_nil, List.nil_append, List.cons_append])
 | with_reducible first
 | (refine hX _ _ ?_; clear hX X)
 | (refine ZG ?_; try clear hall all)
 | (refine hK _ _ ?_; clear hK K)
 | refine ZL ?_
 | (refine v_0 _ _ ?_; try clear v_0 V_0)
 | (refine v_1 _ _ ?_; try clear v_1 V_1)
 | ((first | refine qr 5 [6] ?_ | refine qr 4 [7,8,9,10,11,12] ?_ | refine qr 3 [0,1,2,7,8,9] ?_ | refine Zh (a := .seq (.region 1 _ _) _) [0,1,2] ?_ | refine qr 0 [0,1,2] ?_); intro V_0 v_0)
 | ((first | refine qr 2 [6] ?_ | refine qr 1 [0,1,2,19] ?_); intro V_1 v_1)
 | (refine ZM ?_; intro K hK)
 | (refine ZN ?_; intro all hall K hK)
 | (refine ZQ ?_ ?_)
 | refine ZT ?_ | refine ZU ?_ | refine ZW ?_)
  all_goals try clear v_1 V_1
  all_goals try clear v_0 V_0
  all_goals (try simp only [inR])
  all_goals first
    | omega
    | skip
theorem sound_7 : Sound Tryz.prog 7 .body (norm s7) := by
  refine sb Tryz.func7 rfl (by kernel_rfl) G7_ok (by kernel_rfl) fun ds p r hs hp => ?_
  unfold s7 at hs
  split at hs
  · cases hs; exact ⟨Nat.le_of_ble_eq_true (by kernel_rfl), wk7 _ _ _ hp⟩
  · cases hs
end Go.Proofs.AMT
