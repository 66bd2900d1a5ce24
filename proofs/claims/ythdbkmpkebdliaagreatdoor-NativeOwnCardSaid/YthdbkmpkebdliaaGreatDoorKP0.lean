/- Part of the proof: own text. -/
import Derived.Test.YthdbkmpkebdliaaGreatDoorKJ0
set_option linter.all false
set_option maxHeartbeats 20000000
set_option maxRecDepth 20000
namespace Go.Proofs.AMT
open Go.AM Go.AM.LN
attribute [local congr] bindO_congr bindS_congr bindG_congr awpOps_congr aOne_congr awp_congr aCond_congr awpD_congr dOne_congr keysB_congr nOne_congr thenP_congr blockP_congr Chk_congr Brk_congr
noncomputable def s125 : Cs := fun ds => match ds with
  | [.v (.agg ⟨[.int .u64 a0, .int .u64 a1, .int .u64 a2, .int .u64 a3]⟩), .v (.int .i64 n)] => some (((0 ≤ a0 ∧ a0 < 18446744073709551616) ∧ (0 ≤ a1 ∧ a1 < 18446744073709551616) ∧ (0 ≤ a2 ∧ a2 < 18446744073709551616) ∧ (0 ≤ a3 ∧ a3 < 18446744073709551616)) ∧ 0 ≤ n ∧ n < 256, .one (.v (.int .u64 (((V4 a0 a1 a2 a3) / 2 ^ n.toNat % 2 : Nat)))))
  | _ => none
theorem s125_eq (a0 a1 a2 a3 : Int) (n : Int) : norm s125 [.v (.agg #[.int .u64 a0, .int .u64 a1, .int .u64 a2, .int .u64 a3]), .v (.int .i64 n)] = s125 [.v (.agg #[.int .u64 a0, .int .u64 a1, .int .u64 a2, .int .u64 a3]), .v (.int .i64 n)] := rfl
noncomputable def G125 : Gam := []
theorem G125_ok : Gk Tryz.prog G125 := Gn
theorem wk125 (a0 a1 a2 a3 : Int) (n : Int) (hp : ((0 ≤ a0 ∧ a0 < 18446744073709551616) ∧ (0 ≤ a1 ∧ a1 < 18446744073709551616) ∧ (0 ≤ a2 ∧ a2 < 18446744073709551616) ∧ (0 ≤ a3 ∧ a3 < 18446744073709551616)) ∧ 0 ≤ n ∧ n < 256) : awp ty G125 (code Tryz.f125) (retP ty Tryz.f125.results.toList (.one (.v (.int .u64 (((V4 a0 a1 a2 a3) / 2 ^ n.toNat % 2 : Nat)))))) (entry 0 [.v (.agg #[.int .u64 a0, .int .u64 a1, .int .u64 a2, .int .u64 a3]), .v (.int .i64 n)]) [] := by
  unfold code
  simp only [Tryz.f125, Option.getD_some]
  obtain ⟨k, rfl⟩ := Int.eq_ofNat_of_zero_le (show 0 ≤ n by omega)
  have hk : k = 64 * (k / 64) + k % 64 := by omega
  generalize hw : k / 64 = w at *
  generalize hs : k % 64 = s at *
  have hd : (k : Int).tdiv 64 = (w : Int) := by rw [Int.tdiv_eq_ediv_of_nonneg (by omega)]; omega
  have hm : (k : Int).tmod 64 = (s : Int) := by rw [Int.tmod_eq_emod_of_nonneg (by omega)]; omega
  have hmm : (s : Int) % 18446744073709551616 = (s : Int) := by omega
  have m1 : min s 64 = s := by omega
  have m2 : (64 - (s : Int)).toNat = 64 - s := by omega
  have m4 : (64 - (s : Int)) % 18446744073709551616 = 64 - (s : Int) := by omega
  have m3 : min (64 - s) 64 = 64 - s := by omega
  obtain ⟨ha0, ha1, ha2, ha3⟩ := hp.1
  have g1 : decide ((k : Int) < 0) = false := by simp
  have g2 : decide ((k : Int) ≥ 256) = false := by simp only [decide_eq_false_iff_not]; omega
  have hw4 : w = 0 ∨ w = 1 ∨ w = 2 ∨ w = 3 := by omega
  rcases hw4 with h | h | h | h
  all_goals subst h
  all_goals first
    | replace hd : (k : Int).tdiv 64 = 0 := hd
    | replace hd : (k : Int).tdiv 64 = 1 := hd
    | replace hd : (k : Int).tdiv 64 = 2 := hd
    | replace hd : (k : Int).tdiv 64 = 3 := hd
  all_goals repeat' (first
 | ((with_reducible first | (refine ZA ?_; intro X hX) | (show awp _ _ _ _ (Kp _ _) _) | refine ZD ?_ | refine ZE ?_ | refine ZF ?_ | ((show Bg _ _ _ _ _); simp only [hall]) | (refine ZR ?_ ?_ <;> intro hb <;> (try simp only [hb]) <;> have hq := hb <;> try simp only [HQ] at hq)) <;> try simp only [Go.AM.SS, Nat.reduceAdd, Nat.reduceMul, Nat.reduceSub, ↓reduceIte, Nat.reduceEqDiff, Nat.reduceLT, Nat.reduceLeDiff, reduceCtorEq, Int.reduceBEq, Int.reduceBNe, Nat.reduceBEq, Int.reduceEq, Int.reduceToNat, Int.reduceLE, Int.reduceLT, Nat.reduceDiv, Int.reduceAdd, Int.reduceSub, Int.reduceMul, Int.reduceNeg, Int.reduceGT, Int.reduceGE, Nat.reduceMod, ty_3, ty_22, ty_23, hd, hm, m1, IntKind.bits, g1, g2])
 | with_reducible first
 | (refine hX _ _ ?_; clear hX X)
 | (refine ZG ?_; try clear hall all)
 | (refine hK _ _ ?_; clear hK K)
 | refine ZL ?_
 | (refine v_0 _ _ ?_; try clear v_0 V_0)
 | (refine v_1 _ _ ?_; try clear v_1 V_1)
 | ((first | refine qr 3 [4] ?_ | refine Zh (a := .seq (.region 1 _ _) _) [1,2] ?_ | refine qr 0 [1,2] ?_); intro V_0 v_0)
 | ((first | refine qr 2 [4] ?_ | refine qr 1 [1,2,13] ?_); intro V_1 v_1)
 | (refine ZM ?_; intro K hK)
 | (refine ZN ?_; intro all hall K hK)
 | (refine ZQ ?_ ?_)
 | refine ZT ?_ | refine ZU ?_ | refine ZW ?_)
  all_goals try clear v_1 V_1
  all_goals try clear v_0 V_0
  all_goals (try simp only [inR])
  all_goals first
    | omega
    | skip
  all_goals rw [hk]
  all_goals have hb4 := bit4 ha0 ha1 ha2 ha3 (show s < 64 by omega)
  · rw [hb4.1]
  · rw [hb4.2.1]
  · rw [hb4.2.2.1]
  · rw [hb4.2.2.2]
theorem sound_125 : Sound Tryz.prog 125 .body (norm s125) := by
  refine sb Tryz.func125 rfl (by kernel_rfl) G125_ok (by kernel_rfl) fun ds p r hs hp => ?_
  unfold s125 at hs
  split at hs
  · cases hs; exact ⟨Nat.le_of_ble_eq_true (by kernel_rfl), wk125 _ _ _ _ _ hp⟩
  · cases hs
noncomputable def s62 : Cs := fun ds => match ds with
  | [.v (.int .i64 n), .v (.agg ⟨[.int .u64 b0, .int .u64 b1, .int .u64 b2, .int .u64 b3]⟩)] => some ((0 ≤ b0 ∧ b0 < 18446744073709551616) ∧ (0 ≤ b1 ∧ b1 < 18446744073709551616) ∧ (0 ≤ b2 ∧ b2 < 18446744073709551616) ∧ (0 ≤ b3 ∧ b3 < 18446744073709551616), .many [.v (.agg #[.int .i64 (dC n (V4 b0 b1 b2 b3)), .bool (dS n (V4 b0 b1 b2 b3)), .bool (dQ n (V4 b0 b1 b2 b3)), .int .i64 (dX n (V4 b0 b1 b2 b3)), .int .u64 (w4 (dV n (V4 b0 b1 b2 b3)) 0), .int .u64 (w4 (dV n (V4 b0 b1 b2 b3)) 1), .int .u64 (w4 (dV n (V4 b0 b1 b2 b3)) 2), .int .u64 (w4 (dV n (V4 b0 b1 b2 b3)) 3)]), .v (.int .i64 (if okB n (V4 b0 b1 b2 b3) then 0 else 1))])
  | _ => none
theorem s62_eq (n : Int) (b0 b1 b2 b3 : Int) : norm s62 [.v (.int .i64 n), .v (.agg #[.int .u64 b0, .int .u64 b1, .int .u64 b2, .int .u64 b3])] = s62 [.v (.int .i64 n), .v (.agg #[.int .u64 b0, .int .u64 b1, .int .u64 b2, .int .u64 b3])] := rfl
noncomputable def G62 : Gam := [(91, .body, norm s91), (124, .body, norm s124), (125, .body, norm s125), (126, .body, norm s126), (127, .body, norm s127)]
theorem G62_ok : Gk Tryz.prog G62 := Gc sound_91 (Gc sound_124 (Gc sound_125 (Gc sound_126 (Gc sound_127 Gn))))
theorem k62_91 : lk G62 91 = some (.body, norm s91) := rfl
theorem k62_124 : lk G62 124 = some (.body, norm s124) := rfl
theorem k62_125 : lk G62 125 = some (.body, norm s125) := rfl
theorem k62_126 : lk G62 126 = some (.body, norm s126) := rfl
theorem k62_127 : lk G62 127 = some (.body, norm s127) := rfl
theorem wk62 (n : Int) (b0 b1 b2 b3 : Int) (hp : (0 ≤ b0 ∧ b0 < 18446744073709551616) ∧ (0 ≤ b1 ∧ b1 < 18446744073709551616) ∧ (0 ≤ b2 ∧ b2 < 18446744073709551616) ∧ (0 ≤ b3 ∧ b3 < 18446744073709551616)) : awp ty G62 (code Tryz.f62) (retP ty Tryz.f62.results.toList (.many [.v (.agg #[.int .i64 (dC n (V4 b0 b1 b2 b3)), .bool (dS n (V4 b0 b1 b2 b3)), .bool (dQ n (V4 b0 b1 b2 b3)), .int .i64 (dX n (V4 b0 b1 b2 b3)), .int .u64 (w4 (dV n (V4 b0 b1 b2 b3)) 0), .int .u64 (w4 (dV n (V4 b0 b1 b2 b3)) 1), .int .u64 (w4 (dV n (V4 b0 b1 b2 b3)) 2), .int .u64 (w4 (dV n (V4 b0 b1 b2 b3)) 3)]), .v (.int .i64 (if okB n (V4 b0 b1 b2 b3) then 0 else 1))])) (entry 0 [.v (.int .i64 n), .v (.agg #[.int .u64 b0, .int .u64 b1, .int .u64 b2, .int .u64 b3])]) [] := by
  unfold code
  simp only [Tryz.f62, Option.getD_some]
  rcases Bool.eq_false_or_eq_true (okB n (V4 b0 b1 b2 b3)) with hO | hO
  case' inr =>
    rcases Classical.em (1 ≤ n ∧ n ≤ 12) with hr | hr
    all_goals first
      | (have hI := infoV_in hr)
      | (have hI := infoV_out hr)
    all_goals have hmin : decide ((4 : Int) ≥ 5) = false := rfl
    all_goals have hEE : decide ((4 : Int) ≥ 5) = false := rfl
    all_goals have hFF : decide ((4 : Int) ≥ 5) = false := rfl
    all_goals have eP : decide ((4 : Int) ≥ 5) = false := rfl
    all_goals have w0 : decide ((4 : Int) ≥ 5) = false := rfl
    all_goals have g1 : decide ((4 : Int) ≥ 5) = false := rfl
    all_goals have g2 : decide ((4 : Int) ≥ 5) = false := rfl
    all_goals have g3 : decide ((4 : Int) ≥ 5) = false := rfl
    all_goals have gQ : decide ((4 : Int) ≥ 5) = false := rfl
    all_goals have gS : decide ((4 : Int) ≥ 5) = false := rfl
    all_goals have hV0 : decide ((4 : Int) ≥ 5) = false := rfl
    all_goals rw [show dC n (V4 b0 b1 b2 b3) = 0 by simp [dC, hO], show dS n (V4 b0 b1 b2 b3) = false by simp [dS, hO], show dQ n (V4 b0 b1 b2 b3) = false by simp [dQ, hO], show dX n (V4 b0 b1 b2 b3) = 0 by simp [dX, hO], show dV n (V4 b0 b1 b2 b3) = 0 by simp [dV, hO]]
  case' inl =>
    obtain ⟨hn, hbl⟩ := okB_in hO
    obtain ⟨F1, F2, F3, F4, F5, F6, F7, F8, F9, F10, F11⟩ := bfmt hn
    have hI := infoV_in (n := n) (by omega)
    have hmin : min (fx n).toNat 64 = (fx n).toNat := by omega
    have eP : fp n - 1 - 1 = fp n - 2 := by omega
    have hEl := uE_lt hn (V4 b0 b1 b2 b3)
    have hFl := uF_lt hn (V4 b0 b1 b2 b3)
    obtain ⟨E, hE⟩ : ∃ E, uE n (V4 b0 b1 b2 b3) = E := ⟨_, rfl⟩
    obtain ⟨Fr, hF⟩ : ∃ Fr, uF n (V4 b0 b1 b2 b3) = Fr := ⟨_, rfl⟩
    have hEE : (V4 b0 b1 b2 b3) / 2 ^ (fp n - 1).toNat % 2 ^ (fx n).toNat = E := hE
    have hFF : (V4 b0 b1 b2 b3) % 2 ^ (fp n - 1).toNat = Fr := hF
    rw [hE] at hEl
    rw [hF] at hFl
    have w0 := w4_small (E := E) (by omega)
    have hV0 := V4_w4 hFl
    have gz := V4_zero (Wl Fr 0).1 (Wl Fr 1).1 (Wl Fr 2).1 (Wl Fr 3).1
    rw [hV0] at gz
    have gS : ((((V4 b0 b1 b2 b3) / 2 ^ (fw n - 1).toNat % 2 : Nat) : Int) == 1) = uS n (V4 b0 b1 b2 b3) := by unfold uS; rw [Bool.eq_iff_iff]; simp only [beq_iff_eq]; omega
    have gQ : ((((V4 b0 b1 b2 b3) / 2 ^ (fp n - 2).toNat % 2 : Nat) : Int) == 0) = ((V4 b0 b1 b2 b3) / 2 ^ (fp n - 2).toNat % 2 == 0) := by rw [Bool.eq_iff_iff]; simp only [beq_iff_eq]; omega
    have hxp : (2 : Int) ^ (fx n).toNat ≤ 32768 := by omega
    rw [show dC n (V4 b0 b1 b2 b3) = uC n (V4 b0 b1 b2 b3) by simp [dC, hO], show dS n (V4 b0 b1 b2 b3) = uS n (V4 b0 b1 b2 b3) by simp [dS, hO], show dQ n (V4 b0 b1 b2 b3) = uQ n (V4 b0 b1 b2 b3) by simp [dQ, hO], show dX n (V4 b0 b1 b2 b3) = uX n (V4 b0 b1 b2 b3) by simp [dX, hO], show dV n (V4 b0 b1 b2 b3) = uV n (V4 b0 b1 b2 b3) by simp [dV, hO]]
    have hcase : ((E : Int) < 2 ^ (fx n).toNat - 1 ∧ E = 0) ∨ ((E : Int) < 2 ^ (fx n).toNat - 1 ∧ E ≠ 0) ∨ (¬ (E : Int) < 2 ^ (fx n).toNat - 1 ∧ Fr = 0) ∨ (¬ (E : Int) < 2 ^ (fx n).toNat - 1 ∧ Fr ≠ 0) := by omega
    rcases hcase with ⟨h1, h2⟩ | ⟨h1, h2⟩ | ⟨h1, h2⟩ | ⟨h1, h2⟩
    all_goals first
      | (have g1 : decide ((E : Int) < 2 ^ (fx n).toNat - 1) = true := decide_eq_true h1)
      | (have g1 : decide ((E : Int) < 2 ^ (fx n).toNat - 1) = false := decide_eq_false h1)
    all_goals first
      | (have g2 : decide ((E : Int) > 0) = true := by simp only [decide_eq_true_eq]; omega)
      | (have g2 : decide ((E : Int) > 0) = false := by simp only [decide_eq_false_iff_not]; omega)
    all_goals first
      | (have g3 := gz.trans (decide_eq_true h2))
      | (have g3 := gz.trans (decide_eq_false h2))
      | (have g3 := gz)
  all_goals repeat' (first
 | ((with_reducible first | (refine ZA ?_; intro X hX) | (refine ZB ?_; intro X hX) | (show awp _ _ _ _ (Kp _ _) _) | (refine hX _ _ _ _ ?_; clear hX X) | (refine ZC ?_; intro X hX) | refine ZD ?_ | refine ZE ?_ | refine ZF ?_ | ((show Bg _ _ _ _ _); simp only [hall]) | (refine ZR ?_ ?_ <;> intro hb <;> (try simp only [hb]) <;> have hq := hb <;> try simp only [HQ] at hq)) <;> try simp only [Go.AM.SS, Nat.reduceAdd, Nat.reduceMul, Nat.reduceSub, ↓reduceIte, Nat.reduceEqDiff, Nat.reduceLT, Nat.reduceLeDiff, reduceCtorEq, Int.reduceBEq, Int.reduceBNe, Nat.reduceBEq, Int.reduceEq, Int.reduceToNat, Int.reduceLE, Int.reduceLT, Nat.reduceDiv, Int.reduceAdd, Int.reduceSub, Int.reduceMul, Int.reduceNeg, Int.reduceGT, Int.reduceGE, Nat.reduceMod, k62_91, s91.eq_1, s91_eq, k62_124, s124.eq_1, s124_eq, k62_125, s125.eq_1, s125_eq, k62_126, s126.eq_1, s126_eq, k62_127, s127.eq_1, s127_eq, ty_3, ty_4, ty_9, ty_22, ty_23, ty_24, ty_33, ty_75, ty_95, hI, infoT, infoZ, hO, hmin, IntKind.bits, Nat.pow_zero, Nat.div_one, Int.one_mul, V4_x, Int.toNat_one, hEE, hFF, eP, w0, g1, g2, g3, gQ, gS, hV0])
 | with_reducible first
 | (refine hX _ _ ?_; clear hX X)
 | (refine ZI ?_; try clear hall all)
 | (refine ZJ ?_; kernel_rfl)
 | ((show clashK _ _ _ = true); kernel_rfl)
 | (refine ZG ?_; try clear hall all)
 | (refine ZH ?_; try clear hall all)
 | (refine hK _ _ ?_; clear hK K)
 | refine ZL ?_
 | (refine v_0 _ _ ?_; try clear v_0 V_0)
 | (refine v_1 _ _ ?_; try clear v_1 V_1)
 | (refine v_2 _ _ ?_; try clear v_2 V_2)
 | ((first | refine qr 18 [4,5] ?_ | refine qb 0 [4,11] ?_ | refine qr 7 [3,4,6,8,9,10,11] ?_ | refine qr 6 [3,4,6,8,9,10] ?_ | refine qr 5 [3,4,6,8,9] ?_ | refine qr 4 [3,4,6,8] ?_ | refine Zh (a := .seq (.region 2 _ _) _) [3,4,6] ?_ | refine qr 1 [3,4,6,7] ?_ | refine qr 0 [0,3,4] ?_); intro V_0 v_0)
 | ((first | refine Zh (a := .seq (.region 13 _ _) _) [4,9,11] ?_ | refine qr 12 [4,8,9,10,11] ?_ | refine qr 9 [4,8,9,11] ?_ | refine qr 8 [3,4,8,9,11] ?_ | refine qr 16 [3,4,8,9,11,75] ?_ | refine qr 11 [3,4,6,8,9,10,11,53] ?_ | refine qr 3 [4,5] ?_ | refine qr 2 [3,4,6,19] ?_); intro V_1 v_1)
 | ((first | refine qr 13 [4,8,9,11,68] ?_); intro V_2 v_2)
 | (refine ZM ?_; intro K hK)
 | (refine ZN ?_; intro all hall K hK)
 | (refine Da (id := 14) ?_ ?_; kernel_rfl; intro all hall K hK)
 | (refine ZO ?_ ?_; kernel_rfl; intro all hall K hK)
 | (refine ZQ ?_ ?_)
 | (refine ZK ?_; kernel_rfl)
 | (refine Zg ?_; simp only [↓reduceIte, Nat.reduceEqDiff])
 | refine ZS ?_ | refine ZT ?_ | refine ZU ?_ | refine ZV ?_ | refine ZW ?_ | refine ZX ?_ | refine Ze ?_ | refine Zf ?_)
  all_goals try clear v_2 V_2
  all_goals try clear v_1 V_1
  all_goals try clear v_0 V_0
  all_goals (try clear gz)
  all_goals clear hEE hFF hV0 w0 g1 g2 g3
  all_goals (try simp only [inR])
  all_goals first
    | omega
    | exact hp
    | exact ⟨hp, by omega, by omega⟩
    | exact ⟨hp, ⟨by omega, by omega⟩, by omega, by omega⟩
    | exact ⟨⟨Wl _ _, Wl _ _, Wl _ _, Wl _ _⟩, by omega, by omega⟩
    | exact ⟨⟨Wl _ _, Wl _ _, Wl _ _, Wl _ _⟩, ⟨by omega, by omega⟩, by omega, by omega⟩
    | (obtain ⟨e1, e2, e3, e4⟩ := u_num (n := n) (V := (V4 b0 b1 b2 b3)) (by rw [hE]; exact h1)
       rw [e1, e2, e3, e4, hE, hF]
       first
         | rw [if_pos h2]
         | rw [if_neg h2])
    | (have hh : uF n (V4 b0 b1 b2 b3) = 0 := hF.trans h2
       obtain ⟨e1, e2, e3, e4⟩ := u_inf (n := n) (V := (V4 b0 b1 b2 b3)) (by rw [hE]; exact h1) hh
       rw [e1, e2, e3, e4]
       simp only [w4_zero])
    | (have hh : uF n (V4 b0 b1 b2 b3) ≠ 0 := fun hz => h2 (hF.symm.trans hz)
       obtain ⟨e1, e2, e3, e4⟩ := u_nan (n := n) (V := (V4 b0 b1 b2 b3)) (by rw [hE]; exact h1) hh
       rw [e1, e2, e3, e4, hF])
    | (simp [w4_zero]; done)
    | skip
theorem sound_62 : Sound Tryz.prog 62 .body (norm s62) := by
  refine sb Tryz.func62 rfl (by kernel_rfl) G62_ok (by kernel_rfl) fun ds p r hs hp => ?_
  unfold s62 at hs
  split at hs
  · cases hs; exact ⟨Nat.le_of_ble_eq_true (by kernel_rfl), wk62 _ _ _ _ _ hp⟩
  · cases hs
end Go.Proofs.AMT
set_option maxRecDepth 20000
namespace Go.AM.LN
open Go
theorem sw64 : Ieee.double.signWeight = 9223372036854775808 := rfl
theorem bn64 : Ieee.double.binade = 4503599627370496 := rfl
theorem ir64 : Ieee.double.infRung = 9218868437227405312 := rfl
theorem lp64 : Ieee.double.leastPlace = -1074 := rfl
theorem fb64 : Ieee.double.fractionBits = 52 := rfl
def rung (U : Nat) (q : Int) : Nat := (q + blen U + 1021).toNat * 4503599627370496 + U * 2 ^ (53 - blen U)
theorem cut_exact {neg : Bool} {n k : Nat} (h : n % 2 ^ k = 0) : Ieee.Toward.even.cut neg n k = n / 2 ^ k := by
  unfold Ieee.Toward.cut
  by_cases hk : k ≤ n.log2 + 2
  · rw [Nat.min_eq_left hk, Nat.one_shiftLeft]
    dsimp only
    rw [h]
    have := Nat.two_pow_pos k
    have h2 : ¬ (2 ^ k < 2 * 0) := by omega
    have h3 : ¬ (2 ^ k = 2 * 0) := by omega
    simp [h2, h3]
  · have h0 : n = 0 := by
      apply Classical.byContradiction
      intro hn
      obtain ⟨m, hm⟩ := Nat.dvd_of_mod_eq_zero h
      have h1 : n < 2 ^ (n.log2 + 1) := Nat.lt_log2_self
      have h2 : 2 ^ (n.log2 + 1) ≤ 2 ^ k := Nat.pow_le_pow_right (by omega) (by omega)
      have h3 : 1 ≤ m := Nat.pos_of_ne_zero fun h4 => by subst h4; omega
      have h4 : 2 ^ k * 1 ≤ 2 ^ k * m := Nat.mul_le_mul_left _ h3
      omega
    subst h0
    simp [Nat.one_shiftLeft]
theorem near {S : Bool} {U k : Nat} {p : Int} (hU : 0 < U) (hb : blen U ≤ 53) (h3 : -1021 ≤ p + k + blen U) (h4 : p + k + blen U ≤ 1023) : Ieee.double.nearest S (U * 2 ^ k) p = Ieee.double.word S (rung U (p + k)) := by
  have hV : 0 < U * 2 ^ k := Nat.mul_pos hU (Nat.two_pow_pos k)
  have hlog : blen (U * 2 ^ k) = (U * 2 ^ k).log2 + 1 := if_neg (by omega)
  rw [blen_mul (by omega)] at hlog
  have hb1 : 1 ≤ blen U := by have := @blen_zero U; omega
  unfold Ieee.Format.nearest
  rw [if_neg (by omega)]
  have hlast : max (p + ((U * 2 ^ k).log2 : Int) - (Ieee.double.fractionBits : Int)) Ieee.double.leastPlace = p + k + blen U - 53 := by
    rw [lp64, fb64]; omega
  simp only [hlast]
  simp only [lp64, bn64, ir64]
  have hX : blen (U * 2 ^ (53 - blen U)) = 53 := by rw [blen_mul (by omega)]; omega
  have hX2 : U * 2 ^ (53 - blen U) < 2 ^ 53 := blen_lt.1 (by omega)
  have e : Ieee.Toward.even.cut S ((U * 2 ^ k) <<< (p - (p + k + blen U - 53)).toNat) (p + k + blen U - 53 - p).toNat = U * 2 ^ (53 - blen U) := by
    rw [Nat.shiftLeft_eq]
    by_cases hk : k + blen U ≤ 53
    · rw [show (p + k + blen U - 53 - p).toNat = 0 by omega, cut_exact (by rw [Nat.pow_zero, Nat.mod_one]), Nat.pow_zero, Nat.div_one, Nat.mul_assoc, ← Nat.pow_add]
      congr 2; omega
    · have hd : (p + k + blen U - 53 - p).toNat = k - (53 - blen U) := by omega
      have he : U * 2 ^ k = U * 2 ^ (53 - blen U) * 2 ^ (k - (53 - blen U)) := by rw [Nat.mul_assoc, ← Nat.pow_add]; congr 2; omega
      rw [show (p - (p + k + blen U - 53)).toNat = 0 by omega, Nat.pow_zero, Nat.mul_one, hd, he, cut_exact (Nat.mul_mod_left _ _), Nat.mul_div_cancel _ (Nat.two_pow_pos _)]
  rw [e]
  unfold rung
  have e2 : (p + k + blen U - 53 - -1074).toNat = (p + k + blen U + 1021).toNat := by omega
  rw [e2]
  have h5 : (p + (k : Int) + blen U + 1021).toNat ≤ 2044 := by omega
  have p53 : (2 : Nat) ^ 53 = 9007199254740992 := rfl
  rw [p53] at hX2
  generalize (p + (k : Int) + blen U + 1021).toNat = r at *
  generalize U * 2 ^ (53 - blen U) = X at *
  rw [Nat.min_eq_left (by omega)]
theorem rung_split {U : Nat} {q : Int} (hU : 0 < U) (hb : blen U ≤ 53) (h3 : -1021 ≤ q + blen U) (h4 : q + blen U ≤ 1023) : rung U q / 4503599627370496 = (q + blen U + 1022).toNat ∧ rung U q % 4503599627370496 = U * 2 ^ (53 - blen U) - 4503599627370496 ∧ 4503599627370496 ≤ U * 2 ^ (53 - blen U) ∧ U * 2 ^ (53 - blen U) < 9007199254740992 ∧ rung U q < 9218868437227405312 := by
  have hb1 : 1 ≤ blen U := by have := @blen_zero U; omega
  have hX : blen (U * 2 ^ (53 - blen U)) = 53 := by rw [blen_mul (by omega)]; omega
  have hX2 : U * 2 ^ (53 - blen U) < 2 ^ 53 := blen_lt.1 (by omega)
  have hX1 : 2 ^ 52 ≤ U * 2 ^ (53 - blen U) := blen_le.1 (by omega)
  have p53 : (2 : Nat) ^ 53 = 9007199254740992 := rfl
  have p52 : (2 : Nat) ^ 52 = 4503599627370496 := rfl
  unfold rung
  rw [p53] at hX2
  rw [p52] at hX1
  generalize U * 2 ^ (53 - blen U) = X at *
  omega
theorem read_rung {U : Nat} {q : Int} (hU : 0 < U) (hb : blen U ≤ 53) (h3 : -1021 ≤ q + blen U) (h4 : q + blen U ≤ 1023) : Ieee.double.read (Ieee.double.word false (rung U q)) = .number false (U * 2 ^ (53 - blen U)) (q + blen U - 53) := by
  obtain ⟨r1, r2, r3, r4, r5⟩ := rung_split hU hb h3 h4
  have hw : Ieee.double.word false (rung U q) = rung U q := rfl
  rw [hw]
  unfold Ieee.Format.read
  have e1 : rung U q % 9223372036854775808 = rung U q := Nat.mod_eq_of_lt (by omega)
  have e2 : rung U q / 9223372036854775808 = 0 := Nat.div_eq_of_lt (by omega)
  have n1 : ¬ rung U q < 4503599627370496 := by omega
  simp only [sw64, bn64, ir64, lp64, e1, e2, r1, r2, if_neg n1, if_pos r5]
  have a1 : 4503599627370496 + (U * 2 ^ (53 - blen U) - 4503599627370496) = U * 2 ^ (53 - blen U) := by omega
  have a2 : (-1074 : Int) + (((q + (blen U : Int) + 1022).toNat - 1 : Nat) : Int) = q + blen U - 53 := by omega
  rw [a1, a2]
  rfl
theorem word_f (r : Nat) : Ieee.double.word false r = r := rfl
theorem read0 : Ieee.double.read 0 = .number false 0 (-1074) := rfl
theorem add_zero {V : Nat} {q : Int} (hV : 0 < V) (hb : blen V ≤ 53) (h3 : -1000 ≤ q) (h4 : q ≤ 900) : Ieee.double.add 0 (rung V q) = some (rung V q) := by
  have r2 := read_rung (q := q) hV (by omega) (by omega) (by omega)
  rw [word_f] at r2
  unfold Ieee.Format.add
  rw [r2, read0]
  obtain ⟨k, hk⟩ : ∃ k : Nat, (q + 1074).toNat = k := ⟨_, rfl⟩
  have e1 : (0 : Nat) <<< (-1074 - min (-1074) (q + (blen V : Int) - 53)).toNat = 0 := by rw [Nat.shiftLeft_eq, Nat.zero_mul]
  have e2 : (V * 2 ^ (53 - blen V)) <<< (q + (blen V : Int) - 53 - min (-1074) (q + (blen V : Int) - 53)).toNat = V * 2 ^ k := by
    rw [Nat.shiftLeft_eq, Nat.mul_assoc, ← Nat.pow_add]; congr 2; omega
  have e5 : min (-1074) (q + (blen V : Int) - 53) = -1074 := by omega
  unfold Ieee.Datum.sum
  simp only [Ieee.signed, e1, e2, Bool.false_eq_true, if_false, Option.map_some]
  have hp : 0 < V * 2 ^ k := Nat.mul_pos (by omega) (Nat.two_pow_pos k)
  have e3 : ((0 : Nat) : Int) + ((V * 2 ^ k : Nat) : Int) = ((V * 2 ^ k : Nat) : Int) := by omega
  rw [e3, Int.natAbs_natCast]
  have e4 : (if ((V * 2 ^ k : Nat) : Int) = 0 then (false && false) else decide (((V * 2 ^ k : Nat) : Int) < 0)) = false := by
    rw [if_neg (by omega), decide_eq_false (by omega)]
  rw [e4]
  unfold Ieee.Format.write
  simp only
  rw [near (by omega) hb (by omega) (by omega), word_f, e5]
  congr 2
  omega

theorem and32i {a : Int} (h : 0 ≤ a ∧ a < 4294967296) : AM.bits .and .u64 a 4294967295 = a := by
  have := and_mask 32 (a := a) ⟨h.1, by omega⟩ (by omega)
  have e : (2 ^ 32 - 1 : Int) = 4294967295 := rfl
  have e2 : (2 ^ 32 : Int) = 4294967296 := rfl
  rw [e, e2] at this
  omega
theorem uV_lt {n : Int} (hn : 1 ≤ n ∧ n ≤ 6) {V : Nat} (h : uC n V = 1) : uV n V < 2 ^ 256 := by
  unfold uV
  rw [if_pos h]
  split
  · exact uF_lt hn V
  · exact or_lt (uF_lt hn V) (mod_lt256 _)
theorem w4_lo {R : Nat} (h : R < 18446744073709551616) : w4 R 0 = (R : Int) ∧ w4 R 1 = 0 ∧ w4 R 2 = 0 ∧ w4 R 3 = 0 := by
  refine ⟨w4_small h, ?_, ?_, ?_⟩
  · unfold w4; rw [show 2 ^ (64 * 1) = 18446744073709551616 from rfl, Nat.div_eq_of_lt h]; rfl
  · unfold w4; rw [Nat.div_eq_of_lt (Nat.lt_of_lt_of_le h (by decide))]; rfl
  · unfold w4; rw [Nat.div_eq_of_lt (Nat.lt_of_lt_of_le h (by decide))]; rfl
end Go.AM.LN
set_option maxRecDepth 20000
namespace Go.Proofs.AMT
open Go.AM Go.AM.LN
attribute [local congr] bindO_congr bindS_congr bindG_congr awpOps_congr aOne_congr awp_congr aCond_congr awpD_congr dOne_congr keysB_congr nOne_congr thenP_congr blockP_congr Chk_congr Brk_congr
noncomputable def s219 : Cs := fun ds => match ds with
  | [.v (.int .i64 n), .v (.agg ⟨[.int .i64 cl, .bool sg, .bool si, .int .i64 ex, .int .u64 c0, .int .u64 c1, .int .u64 c2, .int .u64 c3]⟩)] => some (((0 ≤ c0 ∧ c0 < 18446744073709551616) ∧ (0 ≤ c1 ∧ c1 < 18446744073709551616) ∧ (0 ≤ c2 ∧ c2 < 18446744073709551616) ∧ (0 ≤ c3 ∧ c3 < 18446744073709551616)) ∧ cl = 1 ∧ (V4 c0 c1 c2 c3) ≠ 0, .many [.v (.agg #[.int .u64 0, .int .u64 0, .int .u64 0, .int .u64 0]), .v (.int .i64 0), .v (.bool false)])
  | _ => none
theorem s219_eq (n : Int) (cl : Int) (sg : Bool) (si : Bool) (ex : Int) (c0 : Int) (c1 : Int) (c2 : Int) (c3 : Int) : norm s219 [.v (.int .i64 n), .v (.agg #[.int .i64 cl, .bool sg, .bool si, .int .i64 ex, .int .u64 c0, .int .u64 c1, .int .u64 c2, .int .u64 c3])] = s219 [.v (.int .i64 n), .v (.agg #[.int .i64 cl, .bool sg, .bool si, .int .i64 ex, .int .u64 c0, .int .u64 c1, .int .u64 c2, .int .u64 c3])] := rfl
noncomputable def G219 : Gam := [(71, .body, norm s71), (74, .body, norm s74)]
theorem G219_ok : Gk Tryz.prog G219 := Gc sound_71 (Gc sound_74 Gn)
theorem k219_71 : lk G219 71 = some (.body, norm s71) := rfl
theorem k219_74 : lk G219 74 = some (.body, norm s74) := rfl
theorem wk219 (n : Int) (cl : Int) (sg : Bool) (si : Bool) (ex : Int) (c0 : Int) (c1 : Int) (c2 : Int) (c3 : Int) (hp : ((0 ≤ c0 ∧ c0 < 18446744073709551616) ∧ (0 ≤ c1 ∧ c1 < 18446744073709551616) ∧ (0 ≤ c2 ∧ c2 < 18446744073709551616) ∧ (0 ≤ c3 ∧ c3 < 18446744073709551616)) ∧ cl = 1 ∧ (V4 c0 c1 c2 c3) ≠ 0) : awp ty G219 (code Tryz.f219) (retP ty Tryz.f219.results.toList (.many [.v (.agg #[.int .u64 0, .int .u64 0, .int .u64 0, .int .u64 0]), .v (.int .i64 0), .v (.bool false)])) (entry 0 [.v (.int .i64 n), .v (.agg #[.int .i64 cl, .bool sg, .bool si, .int .i64 ex, .int .u64 c0, .int .u64 c1, .int .u64 c2, .int .u64 c3])]) [] := by
  unfold code
  simp only [Tryz.f219, Option.getD_some]
  obtain ⟨hc, rfl, h0⟩ := hp
  have hz := V4_zero hc.1.1 hc.2.1.1 hc.2.2.1.1 hc.2.2.2.1
  rw [decide_eq_false h0] at hz
  all_goals repeat' (first
 | ((with_reducible first | (refine ZA ?_; intro X hX) | (show awp _ _ _ _ (Kp _ _) _) | refine ZD ?_ | refine ZE ?_ | refine ZF ?_ | ((show Bg _ _ _ _ _); simp only [hall]) | (refine ZR ?_ ?_ <;> intro hb <;> (try simp only [hb]) <;> have hq := hb <;> try simp only [HQ] at hq)) <;> try simp only [Go.AM.SS, Nat.reduceAdd, Nat.reduceMul, Nat.reduceSub, ↓reduceIte, Nat.reduceEqDiff, Nat.reduceLT, Nat.reduceLeDiff, reduceCtorEq, Int.reduceBEq, Int.reduceBNe, Nat.reduceBEq, Int.reduceEq, Int.reduceToNat, Int.reduceLE, Int.reduceLT, Nat.reduceDiv, Int.reduceAdd, Int.reduceSub, Int.reduceMul, Int.reduceNeg, Int.reduceGT, Int.reduceGE, Nat.reduceMod, k219_71, s71.eq_1, s71_eq, k219_74, s74.eq_1, s74_eq, ty_3, ty_4, ty_9, ty_22, ty_24, ty_33, ty_95, hz])
 | with_reducible first
 | (refine hX _ _ ?_; clear hX X)
 | (refine ZG ?_; try clear hall all)
 | (refine hK _ _ ?_; clear hK K)
 | refine ZL ?_
 | (refine v_0 _ _ ?_; try clear v_0 V_0)
 | (refine v_1 _ _ ?_; try clear v_1 V_1)
 | ((first | refine qr 10 [4,5,6] ?_ | refine qr 9 [4,7,10] ?_ | refine qb 0 [0,3,4,7] ?_ | refine qr 1 [0,3,4,7] ?_ | refine qr 0 [0,3,4] ?_); intro V_0 v_0)
 | ((first | refine qr 5 [4,5,6] ?_ | refine qr 7 [0,3,4,7,8] ?_ | refine qr 6 [0,3,4,7,33] ?_ | refine qr 4 [0,3,4,7,22] ?_ | refine qr 2 [0,3,4,7,12] ?_); intro V_1 v_1)
 | (refine ZM ?_; intro K hK)
 | (refine ZN ?_; intro all hall K hK)
 | (refine ZQ ?_ ?_)
 | (refine Zg ?_; simp only [↓reduceIte, Nat.reduceEqDiff])
 | refine ZS ?_ | refine ZT ?_ | refine ZU ?_ | refine ZV ?_ | refine ZW ?_ | refine ZX ?_ | refine Ze ?_ | refine Zf ?_)
  all_goals try clear v_1 V_1
  all_goals try clear v_0 V_0
  all_goals (try simp only [inR])
  all_goals first
    | omega
    | skip
theorem sound_219 : Sound Tryz.prog 219 .body (norm s219) := by
  refine sb Tryz.func219 rfl (by kernel_rfl) G219_ok (by kernel_rfl) fun ds p r hs hp => ?_
  unfold s219 at hs
  split at hs
  · cases hs; exact ⟨Nat.le_of_ble_eq_true (by kernel_rfl), wk219 _ _ _ _ _ _ _ _ _ hp⟩
  · cases hs
noncomputable def s220 : Cs := fun ds => match ds with
  | [.v (.int .i64 n), .v (.int .i64 d), .v (.bool s), .v (.agg ⟨[.int .u64 c0, .int .u64 c1, .int .u64 c2, .int .u64 c3]⟩), .v (.int .i64 e)] => some ((0 ≤ c0 ∧ c0 < 18446744073709551616) ∧ (0 ≤ c1 ∧ c1 < 18446744073709551616) ∧ (0 ≤ c2 ∧ c2 < 18446744073709551616) ∧ (0 ≤ c3 ∧ c3 < 18446744073709551616), .many [.v (.agg #[.int .u64 (w4 (roundV n d s (V4 c0 c1 c2 c3) 1 e) 0), .int .u64 (w4 (roundV n d s (V4 c0 c1 c2 c3) 1 e) 1), .int .u64 (w4 (roundV n d s (V4 c0 c1 c2 c3) 1 e) 2), .int .u64 (w4 (roundV n d s (V4 c0 c1 c2 c3) 1 e) 3)]), .v (.int .i64 (roundF n d s (V4 c0 c1 c2 c3) 1 e)), .v (.int .i64 (roundE n d))])
  | _ => none
theorem s220_eq (n : Int) (d : Int) (s : Bool) (c0 c1 c2 c3 : Int) (e : Int) : norm s220 [.v (.int .i64 n), .v (.int .i64 d), .v (.bool s), .v (.agg #[.int .u64 c0, .int .u64 c1, .int .u64 c2, .int .u64 c3]), .v (.int .i64 e)] = s220 [.v (.int .i64 n), .v (.int .i64 d), .v (.bool s), .v (.agg #[.int .u64 c0, .int .u64 c1, .int .u64 c2, .int .u64 c3]), .v (.int .i64 e)] := rfl
noncomputable def G220 : Gam := [(97, .body, norm s97), (99, .body, norm s99)]
theorem G220_ok : Gk Tryz.prog G220 := Gc sound_97 (Gc sound_99 Gn)
theorem k220_97 : lk G220 97 = some (.body, norm s97) := rfl
theorem k220_99 : lk G220 99 = some (.body, norm s99) := rfl
theorem wk220 (n : Int) (d : Int) (s : Bool) (c0 c1 c2 c3 : Int) (e : Int) (hp : (0 ≤ c0 ∧ c0 < 18446744073709551616) ∧ (0 ≤ c1 ∧ c1 < 18446744073709551616) ∧ (0 ≤ c2 ∧ c2 < 18446744073709551616) ∧ (0 ≤ c3 ∧ c3 < 18446744073709551616)) : awp ty G220 (code Tryz.f220) (retP ty Tryz.f220.results.toList (.many [.v (.agg #[.int .u64 (w4 (roundV n d s (V4 c0 c1 c2 c3) 1 e) 0), .int .u64 (w4 (roundV n d s (V4 c0 c1 c2 c3) 1 e) 1), .int .u64 (w4 (roundV n d s (V4 c0 c1 c2 c3) 1 e) 2), .int .u64 (w4 (roundV n d s (V4 c0 c1 c2 c3) 1 e) 3)]), .v (.int .i64 (roundF n d s (V4 c0 c1 c2 c3) 1 e)), .v (.int .i64 (roundE n d))])) (entry 0 [.v (.int .i64 n), .v (.int .i64 d), .v (.bool s), .v (.agg #[.int .u64 c0, .int .u64 c1, .int .u64 c2, .int .u64 c3]), .v (.int .i64 e)]) [] := by
  unfold code
  simp only [Tryz.f220, Option.getD_some]
  have hV : val [c0, c1, c2, c3] = (V4 c0 c1 c2 c3) := rfl
  have i1 : (1 : Int).toNat = 1 := rfl
  have l4 := lim4 hp.1 hp.2.1 hp.2.2.1 hp.2.2.2
  have s4 := sz_le [c0, c1, c2, c3]
  have l1 := len_b (x := 1) (k := 64) (by decide)
  all_goals repeat' (first
 | ((with_reducible first | (refine ZA ?_; intro X hX) | (refine ZB ?_; intro X hX) | (show awp _ _ _ _ (Kp _ _) _) | (refine hX _ _ _ _ ?_; clear hX X) | (refine ZC ?_; intro X hX) | refine ZD ?_ | refine ZE ?_ | refine ZF ?_ | ((show Bg _ _ _ _ _); simp only [hall]) | (refine ZR ?_ ?_ <;> intro hb <;> (try simp only [hb]) <;> have hq := hb <;> try simp only [HQ] at hq)) <;> try simp only [Go.AM.SS, Nat.reduceAdd, Nat.reduceMul, Nat.reduceSub, ↓reduceIte, Nat.reduceEqDiff, Nat.reduceLT, Nat.reduceLeDiff, reduceCtorEq, Int.reduceBEq, Int.reduceBNe, Nat.reduceBEq, Int.reduceEq, Int.reduceToNat, Int.reduceLE, Int.reduceLT, Nat.reduceDiv, Int.reduceAdd, Int.reduceSub, Int.reduceMul, Int.reduceNeg, Int.reduceGT, Int.reduceGE, Nat.reduceMod, k220_97, s97.eq_1, s97_eq, k220_99, s99.eq_1, s99_eq, s99_nil1, s99_nil2, s99_nil3, ty_3, ty_4, ty_22, ty_24, ty_50, hV, i1, Vl, toInts])
 | with_reducible first
 | (refine hX _ _ ?_; clear hX X)
 | (refine ZI ?_; try clear hall all)
 | (refine ZJ ?_; kernel_rfl)
 | ((show clashK _ _ _ = true); kernel_rfl)
 | (refine ZG ?_; try clear hall all)
 | (refine ZH ?_; try clear hall all)
 | (refine hK _ _ ?_; clear hK K)
 | refine ZL ?_
 | (refine v_0 _ _ ?_; try clear v_0 V_0)
 | ((first | refine qr 1 [10,11,12] ?_ | refine qr 0 [0,1,2,4,8,10] ?_); intro V_0 v_0)
 | (refine ZM ?_; intro K hK)
 | (refine ZN ?_; intro all hall K hK)
 | (refine Da (id := 1) ?_ ?_; kernel_rfl; intro all hall K hK)
 | (refine ZO ?_ ?_; kernel_rfl; intro all hall K hK)
 | (refine ZQ ?_ ?_)
 | (refine ZK ?_; kernel_rfl)
 | refine ZT ?_ | refine ZU ?_ | refine ZW ?_)
  all_goals try clear v_0 V_0
  all_goals (try simp only [inR])
  all_goals first
    | omega
    | exact ⟨l4, ⟨Ml _, by omega⟩, Nat.le_trans s4 (Nat.le_of_ble_eq_true rfl), by rw [sz_limbs]; omega⟩
    | skip
theorem sound_220 : Sound Tryz.prog 220 .body (norm s220) := by
  refine sb Tryz.func220 rfl (by kernel_rfl) G220_ok (by kernel_rfl) fun ds p r hs hp => ?_
  unfold s220 at hs
  split at hs
  · cases hs; exact ⟨Nat.le_of_ble_eq_true (by kernel_rfl), wk220 _ _ _ _ _ _ _ _ hp⟩
  · cases hs
noncomputable def s178 : Cs := fun ds => match ds with
  | [.v (.int .i64 n), .v (.int .i64 m), .v (.int .i64 d), .v (.agg ⟨[.int .u64 b0, .int .u64 b1, .int .u64 b2, .int .u64 b3]⟩)] => some (((0 ≤ b0 ∧ b0 < 18446744073709551616) ∧ (0 ≤ b1 ∧ b1 < 18446744073709551616) ∧ (0 ≤ b2 ∧ b2 < 18446744073709551616) ∧ (0 ≤ b3 ∧ b3 < 18446744073709551616)) ∧ (1 ≤ m ∧ m ≤ 6) ∧ (0 ≤ d ∧ d ≤ 4) ∧ okB n (V4 b0 b1 b2 b3) = true ∧ uC n (V4 b0 b1 b2 b3) = 1 ∧ uV n (V4 b0 b1 b2 b3) ≠ 0, .many [.v (.agg #[.int .u64 (w4 (rndV m d (uS n (V4 b0 b1 b2 b3)) (uV n (V4 b0 b1 b2 b3)) 1 (uX n (V4 b0 b1 b2 b3))) 0), .int .u64 (w4 (rndV m d (uS n (V4 b0 b1 b2 b3)) (uV n (V4 b0 b1 b2 b3)) 1 (uX n (V4 b0 b1 b2 b3))) 1), .int .u64 (w4 (rndV m d (uS n (V4 b0 b1 b2 b3)) (uV n (V4 b0 b1 b2 b3)) 1 (uX n (V4 b0 b1 b2 b3))) 2), .int .u64 (w4 (rndV m d (uS n (V4 b0 b1 b2 b3)) (uV n (V4 b0 b1 b2 b3)) 1 (uX n (V4 b0 b1 b2 b3))) 3)]), .v (.int .i64 (rndF m d (uS n (V4 b0 b1 b2 b3)) (uV n (V4 b0 b1 b2 b3)) 1 (uX n (V4 b0 b1 b2 b3)))), .v (.int .i64 0)])
  | _ => none
theorem s178_eq (n : Int) (m : Int) (d : Int) (b0 b1 b2 b3 : Int) : norm s178 [.v (.int .i64 n), .v (.int .i64 m), .v (.int .i64 d), .v (.agg #[.int .u64 b0, .int .u64 b1, .int .u64 b2, .int .u64 b3])] = s178 [.v (.int .i64 n), .v (.int .i64 m), .v (.int .i64 d), .v (.agg #[.int .u64 b0, .int .u64 b1, .int .u64 b2, .int .u64 b3])] := rfl
noncomputable def G178 : Gam := [(62, .body, norm s62), (91, .body, norm s91), (92, .body, norm s92), (219, .body, norm s219), (220, .body, norm s220)]
theorem G178_ok : Gk Tryz.prog G178 := Gc sound_62 (Gc sound_91 (Gc sound_92 (Gc sound_219 (Gc sound_220 Gn))))
theorem k178_62 : lk G178 62 = some (.body, norm s62) := rfl
theorem k178_91 : lk G178 91 = some (.body, norm s91) := rfl
theorem k178_92 : lk G178 92 = some (.body, norm s92) := rfl
theorem k178_219 : lk G178 219 = some (.body, norm s219) := rfl
theorem k178_220 : lk G178 220 = some (.body, norm s220) := rfl
theorem wk178 (n : Int) (m : Int) (d : Int) (b0 b1 b2 b3 : Int) (hp : ((0 ≤ b0 ∧ b0 < 18446744073709551616) ∧ (0 ≤ b1 ∧ b1 < 18446744073709551616) ∧ (0 ≤ b2 ∧ b2 < 18446744073709551616) ∧ (0 ≤ b3 ∧ b3 < 18446744073709551616)) ∧ (1 ≤ m ∧ m ≤ 6) ∧ (0 ≤ d ∧ d ≤ 4) ∧ okB n (V4 b0 b1 b2 b3) = true ∧ uC n (V4 b0 b1 b2 b3) = 1 ∧ uV n (V4 b0 b1 b2 b3) ≠ 0) : awp ty G178 (code Tryz.f178) (retP ty Tryz.f178.results.toList (.many [.v (.agg #[.int .u64 (w4 (rndV m d (uS n (V4 b0 b1 b2 b3)) (uV n (V4 b0 b1 b2 b3)) 1 (uX n (V4 b0 b1 b2 b3))) 0), .int .u64 (w4 (rndV m d (uS n (V4 b0 b1 b2 b3)) (uV n (V4 b0 b1 b2 b3)) 1 (uX n (V4 b0 b1 b2 b3))) 1), .int .u64 (w4 (rndV m d (uS n (V4 b0 b1 b2 b3)) (uV n (V4 b0 b1 b2 b3)) 1 (uX n (V4 b0 b1 b2 b3))) 2), .int .u64 (w4 (rndV m d (uS n (V4 b0 b1 b2 b3)) (uV n (V4 b0 b1 b2 b3)) 1 (uX n (V4 b0 b1 b2 b3))) 3)]), .v (.int .i64 (rndF m d (uS n (V4 b0 b1 b2 b3)) (uV n (V4 b0 b1 b2 b3)) 1 (uX n (V4 b0 b1 b2 b3)))), .v (.int .i64 0)])) (entry 0 [.v (.int .i64 n), .v (.int .i64 m), .v (.int .i64 d), .v (.agg #[.int .u64 b0, .int .u64 b1, .int .u64 b2, .int .u64 b3])]) [] := by
  unfold code
  simp only [Tryz.f178, Option.getD_some]
  obtain ⟨hb, hm, hd, hO, hc, h0⟩ := hp
  obtain ⟨hn, _⟩ := okB_in hO
  have hdc : dC n (V4 b0 b1 b2 b3) = 1 := by unfold dC; rw [if_pos hO, hc]
  have hds : dS n (V4 b0 b1 b2 b3) = uS n (V4 b0 b1 b2 b3) := if_pos hO
  have hdx : dX n (V4 b0 b1 b2 b3) = uX n (V4 b0 b1 b2 b3) := if_pos hO
  have hdv : dV n (V4 b0 b1 b2 b3) = uV n (V4 b0 b1 b2 b3) := if_pos hO
  have hV4 := V4_w4 (uV_lt hn hc)
  have hI := infoV_in (n := m) (by omega)
  have hO2 : okB m 0 = true := (okB0 m).trans (decide_eq_true hm)
  have gr : (decide (d ≥ 0) && decide (d ≤ 4)) = true := by rw [decide_eq_true (by omega : d ≥ 0), decide_eq_true (by omega : d ≤ 4)]; rfl
  obtain ⟨q1, q2, q3⟩ := round_yes (okR_y hm hd) (uS n (V4 b0 b1 b2 b3)) (uV n (V4 b0 b1 b2 b3)) 1 (uX n (V4 b0 b1 b2 b3))
  all_goals repeat' (first
 | ((with_reducible first | (refine ZA ?_; intro X hX) | (show awp _ _ _ _ (Kp _ _) _) | refine ZD ?_ | refine ZE ?_ | refine ZF ?_ | ((show Bg _ _ _ _ _); simp only [hall]) | (refine ZR ?_ ?_ <;> intro hb <;> (try simp only [hb]) <;> have hq := hb <;> try simp only [HQ] at hq)) <;> try simp only [Go.AM.SS, Nat.reduceAdd, Nat.reduceMul, Nat.reduceSub, ↓reduceIte, Nat.reduceEqDiff, Nat.reduceLT, Nat.reduceLeDiff, reduceCtorEq, Int.reduceBEq, Int.reduceBNe, Nat.reduceBEq, Int.reduceEq, Int.reduceToNat, Int.reduceLE, Int.reduceLT, Nat.reduceDiv, Int.reduceAdd, Int.reduceSub, Int.reduceMul, Int.reduceNeg, Int.reduceGT, Int.reduceGE, Nat.reduceMod, k178_62, s62.eq_1, s62_eq, k178_91, s91.eq_1, s91_eq, k178_92, s92.eq_1, s92_eq, k178_219, s219.eq_1, s219_eq, k178_220, s220.eq_1, s220_eq, ty_3, ty_4, ty_9, ty_22, ty_24, ty_26, ty_33, ty_95, hO, hdc, hds, hdx, hdv, hV4, hO2, gr, q1, q2, q3, V4_x, Int.toNat_zero, hI, infoT])
 | with_reducible first
 | (refine hX _ _ ?_; clear hX X)
 | (refine ZG ?_; try clear hall all)
 | (refine hK _ _ ?_; clear hK K)
 | refine ZL ?_
 | (refine v_0 _ _ ?_; try clear v_0 V_0)
 | (refine v_1 _ _ ?_; try clear v_1 V_1)
 | ((first | refine qr 8 [8,9,10] ?_ | refine Zh (a := .seq (.region 5 _ _) _) [1,2,8,11] ?_ | refine Zh (a := .seq (.region 2 _ _) _) [1,2,8,11] ?_ | refine qr 1 [1,2,8,11,12] ?_ | refine qr 0 [0,1,2,7,8] ?_); intro V_0 v_0)
 | ((first | refine qr 7 [8,9,10] ?_ | refine qr 6 [1,2,8,11,15,16,49] ?_ | refine qr 5 [1,2,8,11,15,16,17] ?_ | refine qr 4 [8,9,10] ?_ | refine qr 3 [1,2,8,11,40] ?_ | refine qr 2 [1,2,8,11,12,14] ?_); intro V_1 v_1)
 | (refine ZM ?_; intro K hK)
 | (refine ZN ?_; intro all hall K hK)
 | (refine ZQ ?_ ?_)
 | refine ZT ?_ | refine ZU ?_ | refine ZW ?_)
  all_goals try clear v_1 V_1
  all_goals try clear v_0 V_0
  all_goals clear hV4
  all_goals (try simp only [inR])
  all_goals first
    | omega
    | exact hb
    | exact ⟨Wl _ _, Wl _ _, Wl _ _, Wl _ _⟩
    | exact ⟨⟨Wl _ _, Wl _ _, Wl _ _, Wl _ _⟩, h0⟩
    | skip
theorem sound_178 : Sound Tryz.prog 178 .body (norm s178) := by
  refine sb Tryz.func178 rfl (by kernel_rfl) G178_ok (by kernel_rfl) fun ds p r hs hp => ?_
  unfold s178 at hs
  split at hs
  · cases hs; exact ⟨Nat.le_of_ble_eq_true (by kernel_rfl), wk178 _ _ _ _ _ _ _ hp⟩
  · cases hs
noncomputable def s179 : Cs := fun ds => match ds with
  | [.v (.float .f64 b)] => some (True, .one (.v (.agg #[.int .u64 b, .int .u64 0, .int .u64 0, .int .u64 0])))
  | _ => none
theorem s179_eq (b : Nat) : norm s179 [.v (.float .f64 b)] = s179 [.v (.float .f64 b)] := rfl
noncomputable def G179 : Gam := [(51, .ext, sF64bits)]
theorem G179_ok : Gk Tryz.prog G179 := Gc ext_51 Gn
theorem k179_51 : lk G179 51 = some (.ext, sF64bits) := rfl
theorem wk179 (b : Nat) (hp : True) : awp ty G179 (code Tryz.f179) (retP ty Tryz.f179.results.toList (.one (.v (.agg #[.int .u64 b, .int .u64 0, .int .u64 0, .int .u64 0])))) (entry 0 [.v (.float .f64 b)]) [] := by
  unfold code
  simp only [Tryz.f179, Option.getD_some]
  all_goals repeat' (first
 | ((with_reducible first | (refine ZA ?_; intro X hX) | (show awp _ _ _ _ (Kp _ _) _) | refine ZD ?_ | refine ZE ?_ | refine ZF ?_ | ((show Bg _ _ _ _ _); simp only [hall]) | (refine ZR ?_ ?_ <;> intro hb <;> (try simp only [hb]) <;> have hq := hb <;> try simp only [HQ] at hq)) <;> try simp only [Go.AM.SS, Nat.reduceAdd, Nat.reduceMul, Nat.reduceSub, ↓reduceIte, Nat.reduceEqDiff, Nat.reduceLT, Nat.reduceLeDiff, reduceCtorEq, Int.reduceBEq, Int.reduceBNe, Nat.reduceBEq, Int.reduceEq, Int.reduceToNat, Int.reduceLE, Int.reduceLT, Nat.reduceDiv, Int.reduceAdd, Int.reduceSub, Int.reduceMul, Int.reduceNeg, Int.reduceGT, Int.reduceGE, Nat.reduceMod, k179_51, sF64bits_eq, ty_22, ty_24, ty_72])
 | with_reducible first
 | (refine hX _ _ ?_; clear hX X)
 | (refine ZG ?_; try clear hall all)
 | (refine hK _ _ ?_; clear hK K)
 | refine ZL ?_
 | (refine v_0 _ _ ?_; try clear v_0 V_0)
 | ((first | refine qr 1 [2] ?_ | refine qr 0 [0,2] ?_); intro V_0 v_0)
 | (refine ZM ?_; intro K hK)
 | (refine ZN ?_; intro all hall K hK)
 | (refine ZQ ?_ ?_)
 | refine ZT ?_ | refine ZU ?_ | refine ZW ?_)
  all_goals try clear v_0 V_0
  all_goals (try simp only [inR])
  all_goals first
    | omega
    | skip
theorem sound_179 : Sound Tryz.prog 179 .body (norm s179) := by
  refine sb Tryz.func179 rfl (by kernel_rfl) G179_ok (by kernel_rfl) fun ds p r hs hp => ?_
  unfold s179 at hs
  split at hs
  · cases hs; exact ⟨Nat.le_of_ble_eq_true (by kernel_rfl), wk179 _ hp⟩
  · cases hs
noncomputable def s180 : Cs := fun ds => match ds with
  | [.v (.agg ⟨[.int .u64 b0, .int .u64 b1, .int .u64 b2, .int .u64 b3]⟩)] => some ((0 ≤ b0 ∧ b0 < 4294967296) ∧ b1 = 0 ∧ b2 = 0 ∧ b3 = 0, .many [.v (.float .f32 b0.toNat), .v (.int .i64 0)])
  | _ => none
theorem s180_eq (b0 b1 b2 b3 : Int) : norm s180 [.v (.agg #[.int .u64 b0, .int .u64 b1, .int .u64 b2, .int .u64 b3])] = s180 [.v (.agg #[.int .u64 b0, .int .u64 b1, .int .u64 b2, .int .u64 b3])] := rfl
noncomputable def G180 : Gam := [(221, .ext, sF32from)]
theorem G180_ok : Gk Tryz.prog G180 := Gc ext_221 Gn
theorem k180_221 : lk G180 221 = some (.ext, sF32from) := rfl
theorem wk180 (b0 b1 b2 b3 : Int) (hp : (0 ≤ b0 ∧ b0 < 4294967296) ∧ b1 = 0 ∧ b2 = 0 ∧ b3 = 0) : awp ty G180 (code Tryz.f180) (retP ty Tryz.f180.results.toList (.many [.v (.float .f32 b0.toNat), .v (.int .i64 0)])) (entry 0 [.v (.agg #[.int .u64 b0, .int .u64 b1, .int .u64 b2, .int .u64 b3])]) [] := by
  unfold code
  simp only [Tryz.f180, Option.getD_some]
  obtain ⟨hb, rfl, rfl, rfl⟩ := hp
  have hA := and32i hb
  have h32 : b0 % 4294967296 = b0 := by omega
  all_goals repeat' (first
 | ((with_reducible first | (refine ZA ?_; intro X hX) | (show awp _ _ _ _ (Kp _ _) _) | refine ZD ?_ | refine ZE ?_ | refine ZF ?_ | ((show Bg _ _ _ _ _); simp only [hall]) | (refine ZR ?_ ?_ <;> intro hb <;> (try simp only [hb]) <;> have hq := hb <;> try simp only [HQ] at hq)) <;> try simp only [Go.AM.SS, Nat.reduceAdd, Nat.reduceMul, Nat.reduceSub, ↓reduceIte, Nat.reduceEqDiff, Nat.reduceLT, Nat.reduceLeDiff, reduceCtorEq, Int.reduceBEq, Int.reduceBNe, Nat.reduceBEq, Int.reduceEq, Int.reduceToNat, Int.reduceLE, Int.reduceLT, Nat.reduceDiv, Int.reduceAdd, Int.reduceSub, Int.reduceMul, Int.reduceNeg, Int.reduceGT, Int.reduceGE, Nat.reduceMod, k180_221, sF32from_eq, ty_22, ty_24, ty_68, hA, h32])
 | with_reducible first
 | (refine hX _ _ ?_; clear hX X)
 | (refine ZG ?_; try clear hall all)
 | (refine hK _ _ ?_; clear hK K)
 | refine ZL ?_
 | (refine v_0 _ _ ?_; try clear v_0 V_0)
 | (refine v_1 _ _ ?_; try clear v_1 V_1)
 | ((first | refine qr 3 [2,3] ?_ | refine Zh (a := .seq (.region 1 _ _) _) [1] ?_ | refine qr 0 [1] ?_); intro V_0 v_0)
 | ((first | refine qr 2 [2,3] ?_ | refine qr 1 [1,9] ?_); intro V_1 v_1)
 | (refine ZM ?_; intro K hK)
 | (refine ZN ?_; intro all hall K hK)
 | (refine ZQ ?_ ?_)
 | refine ZT ?_ | refine ZU ?_ | refine ZW ?_)
  all_goals try clear v_1 V_1
  all_goals try clear v_0 V_0
  all_goals (try simp only [inR])
  all_goals first
    | omega
    | skip
theorem sound_180 : Sound Tryz.prog 180 .body (norm s180) := by
  refine sb Tryz.func180 rfl (by kernel_rfl) G180_ok (by kernel_rfl) fun ds p r hs hp => ?_
  unfold s180 at hs
  split at hs
  · cases hs; exact ⟨Nat.le_of_ble_eq_true (by kernel_rfl), wk180 _ _ _ _ hp⟩
  · cases hs
noncomputable def s113 : Cs := fun ds => match ds with
  | [.v (.float .f64 b)] => some (b < 18446744073709551616 ∧ okB 4 b = true ∧ uC 4 b = 1 ∧ uV 4 b ≠ 0 ∧ (rndV 3 0 (uS 4 b) (uV 4 b) 1 (uX 4 b)) < 4294967296, .many [.v (.float .f32 (rndV 3 0 (uS 4 b) (uV 4 b) 1 (uX 4 b))), .v (.int .i64 (rndF 3 0 (uS 4 b) (uV 4 b) 1 (uX 4 b)))])
  | _ => none
theorem s113_eq (b : Nat) : norm s113 [.v (.float .f64 b)] = s113 [.v (.float .f64 b)] := rfl
noncomputable def G113 : Gam := [(178, .body, norm s178), (179, .body, norm s179), (180, .body, norm s180)]
theorem G113_ok : Gk Tryz.prog G113 := Gc sound_178 (Gc sound_179 (Gc sound_180 Gn))
theorem k113_178 : lk G113 178 = some (.body, norm s178) := rfl
theorem k113_179 : lk G113 179 = some (.body, norm s179) := rfl
theorem k113_180 : lk G113 180 = some (.body, norm s180) := rfl
theorem wk113 (b : Nat) (hp : b < 18446744073709551616 ∧ okB 4 b = true ∧ uC 4 b = 1 ∧ uV 4 b ≠ 0 ∧ (rndV 3 0 (uS 4 b) (uV 4 b) 1 (uX 4 b)) < 4294967296) : awp ty G113 (code Tryz.f113) (retP ty Tryz.f113.results.toList (.many [.v (.float .f32 (rndV 3 0 (uS 4 b) (uV 4 b) 1 (uX 4 b))), .v (.int .i64 (rndF 3 0 (uS 4 b) (uV 4 b) 1 (uX 4 b)))])) (entry 0 [.v (.float .f64 b)]) [] := by
  unfold code
  simp only [Tryz.f113, Option.getD_some]
  obtain ⟨hb, hO, hc, h0, hR⟩ := hp
  obtain ⟨R, hR0⟩ : ∃ R, (rndV 3 0 (uS 4 b) (uV 4 b) 1 (uX 4 b)) = R := ⟨_, rfl⟩
  rw [hR0] at hR ⊢
  obtain ⟨w0, w1, w2, w3⟩ := w4_lo (R := R) (by omega)
  all_goals repeat' (first
 | ((with_reducible first | (refine ZA ?_; intro X hX) | (show awp _ _ _ _ (Kp _ _) _) | refine ZD ?_ | refine ZE ?_ | refine ZF ?_ | ((show Bg _ _ _ _ _); simp only [hall]) | (refine ZR ?_ ?_ <;> intro hb <;> (try simp only [hb]) <;> have hq := hb <;> try simp only [HQ] at hq)) <;> try simp only [Go.AM.SS, Nat.reduceAdd, Nat.reduceMul, Nat.reduceSub, ↓reduceIte, Nat.reduceEqDiff, Nat.reduceLT, Nat.reduceLeDiff, reduceCtorEq, Int.reduceBEq, Int.reduceBNe, Nat.reduceBEq, Int.reduceEq, Int.reduceToNat, Int.reduceLE, Int.reduceLT, Nat.reduceDiv, Int.reduceAdd, Int.reduceSub, Int.reduceMul, Int.reduceNeg, Int.reduceGT, Int.reduceGE, Nat.reduceMod, k113_178, s178.eq_1, s178_eq, k113_179, s179.eq_1, s179_eq, k113_180, s180.eq_1, s180_eq, ty_3, ty_22, ty_24, ty_72, V4_x, hR0, w0, w1, w2, w3])
 | with_reducible first
 | (refine hX _ _ ?_; clear hX X)
 | (refine ZG ?_; try clear hall all)
 | (refine hK _ _ ?_; clear hK K)
 | refine ZL ?_
 | (refine v_0 _ _ ?_; try clear v_0 V_0)
 | ((first | refine qr 3 [2,3] ?_ | refine qr 2 [5,7] ?_ | refine qr 1 [4,5] ?_ | refine qr 0 [0] ?_); intro V_0 v_0)
 | (refine ZM ?_; intro K hK)
 | (refine ZN ?_; intro all hall K hK)
 | (refine ZQ ?_ ?_)
 | refine ZT ?_ | refine ZU ?_ | refine ZW ?_)
  all_goals try clear v_0 V_0
  all_goals clear w0 w1 w2 w3
  all_goals (try simp only [inR])
  all_goals first
    | omega
    | exact ⟨⟨by omega, by omega⟩, hO, hc, h0⟩
    | skip
theorem sound_113 : Sound Tryz.prog 113 .body (norm s113) := by
  refine sb Tryz.func113 rfl (by kernel_rfl) G113_ok (by kernel_rfl) fun ds p r hs hp => ?_
  unfold s113 at hs
  split at hs
  · cases hs; exact ⟨Nat.le_of_ble_eq_true (by kernel_rfl), wk113 _ hp⟩
  · cases hs
end Go.Proofs.AMT
set_option maxRecDepth 20000
namespace Go.AM.LN
open Go Go.Lib
theorem cut_divS {S : Bool} {x k : Nat} (hk : k ≤ x.log2 + 2) : Ieee.Toward.even.cut S x k = (divS 0 S x (2 ^ k)).1 := by
  unfold Ieee.Toward.cut divS
  rw [Nat.min_eq_left hk, Nat.one_shiftLeft]
  have hp := Nat.two_pow_pos k
  generalize 2 ^ k = g at *
  have hr := Nat.mod_lt x hp
  dsimp only
  generalize x / g = q at *
  generalize x % g = r at *
  unfold upS cmpI
  rw [if_pos rfl]
  by_cases h0 : r = 0
  · rw [if_pos h0, decide_eq_false (show ¬ g < 2 * r by omega), Bool.false_or]
    have : (g == 2 * r) = false := by rw [beq_eq_false_iff_ne]; omega
    rw [this]; simp
  · rw [if_neg h0]
    by_cases h1 : r < g - r
    · rw [if_pos h1, decide_eq_false (show ¬ g < 2 * r by omega), Bool.false_or]
      have : (g == 2 * r) = false := by rw [beq_eq_false_iff_ne]; omega
      rw [this]; simp
    · rw [if_neg h1]
      by_cases h2 : r = g - r
      · rw [if_pos h2, decide_eq_false (show ¬ g < 2 * r by omega), Bool.false_or]
        have : (g == 2 * r) = true := by rw [beq_iff_eq]; omega
        rw [this]
        by_cases h3 : q % 2 = 1
        · simp [h3]
        · have : q % 2 = 0 := by omega
          simp [this]
      · rw [if_neg h2, decide_eq_true (show g < 2 * r by omega)]
        simp
theorem conv_eq {f : Ieee.Format} {n : Int} {S : Bool} {A : Nat} (hn : 1 ≤ n ∧ n ≤ 6) (hA : 0 < A) (hAl : A < 2 ^ 64) (hf1 : (f.fractionBits : Int) = fp n - 1) (hf2 : f.leastPlace = 2 - fe n - fp n) (hf3 : f.infRung = (2 ^ (fx n).toNat - 1) * 2 ^ (fp n - 1).toNat)
    (hf4 : f.signWeight = 2 ^ (fp n - 1 + fx n).toNat) (hf5 : f.binade = 2 ^ (fp n - 1).toNat) (he : 64 ≤ fe n) : f.nearest S A 0 = rndV n 0 S A 1 0 := by
  have F := bfmt hn
  have p8 := F.p8
  have p241 := F.p241
  have hee := F.ee
  have hpe : (2 : Int) ^ (fx n).toNat = ((2 ^ (fx n).toNat : Nat) : Int) := by simp
  have hlog : blen A = A.log2 + 1 := if_neg (by omega)
  have hb64 : blen A ≤ 64 := blen_lt.2 hAl
  have hb0 : 0 < blen A := by omega
  have hlow : lowS A 1 = (blen A : Int) - 1 := by
    refine lowS_uniq hA (by decide) ?_ ?_
    · rw [show (-((blen A : Int) - 1)).toNat = 0 by omega, Nat.pow_zero, Nat.mul_one, Nat.one_mul, show ((blen A : Int) - 1).toNat = blen A - 1 by omega]
      exact blen_le.1 (by omega)
    · rw [show (-((blen A : Int) - 1 + 1)).toNat = 0 by omega, Nat.pow_zero, Nat.mul_one, Nat.one_mul, show ((blen A : Int) - 1 + 1).toNat = blen A by omega]
      exact blen_lt.1 (Nat.le_refl _)
  have hrl : rlow A 1 0 = (blen A : Int) - 1 := by unfold rlow; rw [hlow]; omega
  have hq : rq n A 1 0 = (blen A : Int) - fp n := by unfold rq; rw [hrl]; omega
  have hO := rdiv_ok (n := n) (d := 0) (s := S) (e := 0) hn hA (show 0 < 1 by decide) (by rw [hrl]; omega)
  have hdv : rdiv n 0 S A 1 0 = divS 0 S (A * 2 ^ (0 - rq n A 1 0).toNat) (1 * 2 ^ (-(0 - rq n A 1 0)).toNat) := rfl
  obtain ⟨c, hc⟩ : ∃ c, (rdiv n 0 S A 1 0).1 = c := ⟨_, rfl⟩
  rw [hc] at hO
  have hO1 : 2 ^ (fp n - 1).toNat ≤ c ∧ c ≤ 2 ^ (fp n).toNat := by
    rcases hO with ⟨_, h1, h2⟩ | ⟨h1, _⟩
    · exact ⟨h1, h2⟩
    · rw [hq] at h1; omega
  have h2p : 2 ^ (fp n).toNat = 2 ^ (fp n - 1).toNat * 2 := by rw [← Nat.pow_succ]; congr 1; omega
  have hcut : Ieee.Toward.even.cut S (A <<< (0 - rq n A 1 0).toNat) (rq n A 1 0 - 0).toNat = c := by
    rw [Nat.shiftLeft_eq, cut_divS, ← hc, hdv, Nat.one_mul, show (rq n A 1 0 - 0).toNat = (-(0 - rq n A 1 0)).toNat by omega]
    rw [hq]
    by_cases h : (blen A : Int) ≤ fp n
    · rw [show ((blen A : Int) - fp n - 0).toNat = 0 by omega]; omega
    · rw [show (0 - ((blen A : Int) - fp n)).toNat = 0 by omega, Nat.pow_zero, Nat.mul_one]; omega
  have hlast : max ((0 : Int) + (A.log2 : Int) - (f.fractionBits : Int)) f.leastPlace = rq n A 1 0 := by rw [hq, hf1, hf2]; omega
  have hB := Nat.two_pow_pos (fp n - 1).toNat
  have hQ : (rq n A 1 0 - (2 - fe n - fp n)).toNat + 2 ≤ 2 ^ (fx n).toNat - 1 := by rw [hq]; omega
  have hmin : (rq n A 1 0 - (2 - fe n - fp n)).toNat * 2 ^ (fp n - 1).toNat + c ≤ (2 ^ (fx n).toNat - 1) * 2 ^ (fp n - 1).toNat := by
    have := Nat.mul_le_mul_right (2 ^ (fp n - 1).toNat) hQ
    rw [Nat.add_mul] at this
    omega
  unfold Ieee.Format.nearest
  rw [if_neg (by omega)]
  simp only [hlast]
  rw [hcut, hf2, hf3, hf5, Nat.min_eq_left hmin]
  have hw : ∀ r, f.word S r = r + if S then 2 ^ (fp n - 1 + fx n).toNat else 0 := fun r => by
    unfold Ieee.Format.word
    rw [hf4]
    cases S
    · simp
    · rw [if_pos rfl, if_pos rfl, Nat.add_comm]
  rw [hw]
  unfold rndV
  have hqb := (@rq_b n A 1 0).1
  by_cases hP : (blen c : Int) > fp n
  · have e1 : rc n 0 S A 1 0 = c / 2 := by unfold rc; rw [hc, if_pos hP]
    have e2 : rq2 n 0 S A 1 0 = rq n A 1 0 + 1 := by unfold rq2; rw [hc, if_pos hP]
    have hc2 : c = 2 ^ (fp n - 1).toNat * 2 := by
      have : 2 ^ (fp n).toNat ≤ c := blen_le.1 (by omega)
      omega
    have hd := rnd_isD1 (n := n) (c := c) (by omega) hO hqb (by omega) (by rw [hq]; omega)
    rw [if_neg (show ¬ A = 0 by omega), e2, if_neg (show ¬ rq n A 1 0 + 1 > fe n + 1 - fp n by rw [hq]; omega), e1]
    have hbl : (blen (c / 2) : Int) = fp n := by
      rw [hc2, Nat.mul_div_cancel _ (by decide), blen_eq (k := (fp n - 1).toNat) (Nat.le_refl _) (by rw [Nat.pow_succ]; omega)]
      omega
    rw [packS_c1n hn hd hbl, hc2, Nat.mul_div_cancel _ (by decide), Nat.mod_self]
    rw [show (rq n A 1 0 + 1 - (2 - fe n - fp n) + 1).toNat = (rq n A 1 0 - (2 - fe n - fp n)).toNat + 2 by omega, Nat.zero_add, Nat.add_mul, Nat.mul_comm 2 (2 ^ (fp n - 1).toNat)]
  · have e1 : rc n 0 S A 1 0 = c := by unfold rc; rw [hc, if_neg hP]
    have e2 : rq2 n 0 S A 1 0 = rq n A 1 0 := by unfold rq2; rw [hc, if_neg hP]
    have hd := rnd_isD0 (n := n) (c := c) (by omega) hO hqb (by omega) (by rw [hq]; omega)
    rw [if_neg (show ¬ A = 0 by omega), e2, if_neg (show ¬ rq n A 1 0 > fe n + 1 - fp n by rw [hq]; omega), e1]
    have hlt : c < 2 ^ (fp n - 1).toNat * 2 := by
      rw [← h2p]; exact blen_lt.1 (by omega)
    have hbl : (blen c : Int) = fp n := by
      rw [blen_eq (k := (fp n - 1).toNat) hO1.1 (by rw [Nat.pow_succ]; omega)]
      omega
    rw [packS_c1n hn hd hbl, Nat.mod_eq_sub_mod hO1.1, Nat.mod_eq_of_lt (by omega)]
    rw [show (rq n A 1 0 - (2 - fe n - fp n) + 1).toNat = (rq n A 1 0 - (2 - fe n - fp n)).toNat + 1 by omega, Nat.add_mul, Nat.one_mul]
    have := hO1.1
    clear hcut hmin hpe hc hO hO1 hd
    generalize (rq n A 1 0 - (2 - fe n - fp n)).toNat * 2 ^ (fp n - 1).toNat = Y at *
    generalize (if S = true then 2 ^ (fp n - 1 + fx n).toNat else 0) = Z at *
    omega
theorem conv_ok {m : Int} (h : -9223372036854775808 ≤ m ∧ m ≤ 9223372036854775807) :
    floatOfInt .f32 m = rndV 3 0 (decide (m < 0)) m.natAbs 1 0 ∧ floatOfInt .f64 m = rndV 4 0 (decide (m < 0)) m.natAbs 1 0 := by
  rcases Nat.eq_zero_or_pos m.natAbs with h0 | h0
  · have hm : m = 0 := by omega
    subst hm
    exact ⟨by decide +kernel, by decide +kernel⟩
  · exact ⟨conv_eq (f := Ieee.single) (by decide) h0 (by omega) (by decide) (by decide) (by decide) (by decide) (by decide) (by decide),
      conv_eq (f := Ieee.double) (by decide) h0 (by omega) (by decide) (by decide) (by decide) (by decide) (by decide) (by decide)⟩
theorem own_cut {s : Bool} {A : Nat} (hA : A < 18446744073709551616) : gCut ((if s then [45] else []) ++ 48 :: decS A) = ⟨1, s, false, decS A, 0, 0⟩ := by
  have ha := (dgOk_id (decS_ok A)).2
  have hb := (dgOk_id (decS_ok A)).1
  have hl := decS_w64 hA
  have hd : (48 :: decS A).all isDg = true := by rw [List.all_cons, ha]; rfl
  have hsg := sgn_dg (l := 48 :: decS A) hd [] (by simp)
  rw [List.append_nil] at hsg
  obtain ⟨s1, s2⟩ := sgn_pre s hsg.1 hsg.2
  have hw : gWord ((48 :: decS A).map lowB) = none := by
    rw [List.map_cons]
    exact gWord_no rfl (by rfl)
  have hn := gNum_dg s (D := 48 :: decS A) (E := []) hd (by simp) (.inl rfl)
  rw [if_pos rfl, List.append_nil] at hn
  have hlen : ((if s then [45] else []) ++ 48 :: decS A : List UInt8).length ≤ 100 := by
    rw [List.length_append, List.length_cons]
    cases s <;> simp <;> omega
  unfold gCut
  rw [if_neg (by omega), s1, s2, hw]
  dsimp only
  rw [hn, bare_cons, if_pos rfl, hb]
theorem own_rd {n : Int} {s : Bool} {A : Nat} (hn : 1 ≤ n ∧ n ≤ 6) (hA : A < 18446744073709551616) :
    rdE n 0 ((if s then [45] else []) ++ 48 :: decS A) = 0 ∧ rdV n 0 ((if s then [45] else []) ++ 48 :: decS A) = rndV n 0 s A 1 0 := by
  have hR : okR n 0 = true := okR_y hn (by decide)
  have hc := own_cut (s := s) hA
  have hl := decS_w64 hA
  have hz : (gCut ((if s then [45] else []) ++ 48 :: decS A)).e = 0 := by rw [hc]
  have G : gGood 1 s false (decS A) 0 = true := good_num (decS_ok A) (by omega) ⟨by omega, by omega⟩
  obtain ⟨h1, h2, _⟩ := rd_ok hR hz
  rw [hc] at h1 h2
  rw [h1, h2, mk_ok hR G, (mk_1 hR G).1]
  unfold tenX tenY
  have e : clE 11000 0 = 0 := by decide
  rw [e, decS_dv]
  exact ⟨rfl, by simp⟩
theorem nar_awake : okB 4 4591870180066957722 = true ∧ uC 4 4591870180066957722 = 1 ∧ uV 4 4591870180066957722 ≠ 0 ∧ rndV 3 0 (uS 4 4591870180066957722) (uV 4 4591870180066957722) 1 (uX 4 4591870180066957722) = 1036831949 ∧ rndF 3 0 (uS 4 4591870180066957722) (uV 4 4591870180066957722) 1 (uX 4 4591870180066957722) = 8 := by decide +kernel
theorem rnd_w64 {n : Int} {s : Bool} {A : Nat} (hn : n = 3 ∨ n = 4) (hA : A < 2 ^ 64) : rndV n 0 s A 1 0 < 18446744073709551616 := by
  have hn6 : 1 ≤ n ∧ n ≤ 6 := by omega
  obtain ⟨cl, C, ex, hD, h1, _⟩ := rnd_dat (n := n) 0 s (x := A) (y := 1) (e := 0) hn6 (by decide)
  rw [h1]
  obtain ⟨hO, _⟩ := pack_unpack (sg := s) hn6 hD
  have hb := (okB_in hO).2
  have : fw n ≤ 64 := by rcases hn with rfl | rfl <;> decide
  have h3 := (blen_lt (n := packS n cl s false C ex) (k := 64)).1 (by omega)
  exact h3
theorem rnd_w32 {s : Bool} {A : Nat} (hA : A < 2 ^ 64) : rndV 3 0 s A 1 0 < 4294967296 := by
  have hn6 : (1 : Int) ≤ 3 ∧ (3 : Int) ≤ 6 := by decide
  obtain ⟨cl, C, ex, hD, h1, _⟩ := rnd_dat (n := 3) 0 s (x := A) (y := 1) (e := 0) hn6 (by decide)
  rw [h1]
  obtain ⟨hO, _⟩ := pack_unpack (sg := s) hn6 hD
  have hb := (okB_in hO).2
  have : fw 3 = 32 := by decide
  exact (blen_lt (n := packS 3 cl s false C ex) (k := 32)).1 (by omega)
end Go.AM.LN
set_option maxRecDepth 20000
namespace Go.Proofs.AMT
open Go.AM Go.AM.LN
attribute [local congr] bindO_congr bindS_congr bindG_congr awpOps_congr aOne_congr awp_congr aCond_congr awpD_congr dOne_congr keysB_congr nOne_congr thenP_congr blockP_congr Chk_congr Brk_congr
noncomputable def s49 : Cs := fun ds => match ds with
  | [] => some (True, .one (.v (.bool true)))
  | _ => none
theorem s49_eq  : norm s49 [] = s49 [] := rfl
noncomputable def G49 : Gam := [(50, .ext, sF32bits), (113, .body, norm s113)]
theorem G49_ok : Gk Tryz.prog G49 := Gc ext_50 (Gc sound_113 Gn)
theorem k49_50 : lk G49 50 = some (.ext, sF32bits) := rfl
theorem k49_113 : lk G49 113 = some (.body, norm s113) := rfl
theorem wk49  (hp : True) : awp ty G49 (code Tryz.f49) (retP ty Tryz.f49.results.toList (.one (.v (.bool true)))) (entry 0 []) [] := by
  unfold code
  simp only [Tryz.f49, Option.getD_some]
  obtain ⟨q1, q2, q3, q4, q5⟩ := nar_awake
  all_goals repeat' (first
 | ((with_reducible first | (refine ZA ?_; intro X hX) | (show awp _ _ _ _ (Kp _ _) _) | refine ZD ?_ | refine ZE ?_ | refine ZF ?_ | ((show Bg _ _ _ _ _); simp only [hall]) | (refine ZR ?_ ?_ <;> intro hb <;> (try simp only [hb]) <;> have hq := hb <;> try simp only [HQ] at hq)) <;> try simp only [Go.AM.SS, Nat.reduceAdd, Nat.reduceMul, Nat.reduceSub, ↓reduceIte, Nat.reduceEqDiff, Nat.reduceLT, Nat.reduceLeDiff, reduceCtorEq, Int.reduceBEq, Int.reduceBNe, Nat.reduceBEq, Int.reduceEq, Int.reduceToNat, Int.reduceLE, Int.reduceLT, Nat.reduceDiv, Int.reduceAdd, Int.reduceSub, Int.reduceMul, Int.reduceNeg, Int.reduceGT, Int.reduceGE, Nat.reduceMod, k49_50, sF32bits_eq, k49_113, s113.eq_1, s113_eq, ty_3, ty_68, ty_70, ty_72, q4, q5, beq_self_eq_true])
 | with_reducible first
 | (refine hX _ _ ?_; clear hX X)
 | (refine ZG ?_; try clear hall all)
 | (refine hK _ _ ?_; clear hK K)
 | refine ZL ?_
 | (refine v_0 _ _ ?_; try clear v_0 V_0)
 | ((first | refine qr 2 [0] ?_ | refine qr 1 [1,2] ?_ | refine qr 0 [] ?_); intro V_0 v_0)
 | (refine ZM ?_; intro K hK)
 | (refine ZN ?_; intro all hall K hK)
 | (refine ZQ ?_ ?_)
 | refine ZT ?_ | refine ZU ?_ | refine ZW ?_)
  all_goals try clear v_0 V_0
  all_goals (try simp only [inR])
  all_goals first
    | omega
    | exact ⟨q1, q2, q3⟩
    | skip
theorem sound_49 : Sound Tryz.prog 49 .body (norm s49) := by
  refine sb Tryz.func49 rfl (by kernel_rfl) G49_ok (by kernel_rfl) fun ds p r hs hp => ?_
  unfold s49 at hs
  split at hs
  · cases hs; exact ⟨Nat.le_of_ble_eq_true (by kernel_rfl), wk49  hp⟩
  · cases hs
noncomputable def s52 : Cs := fun ds => match ds with
  | [.v (.int .i64 n), .v (.int .i64 d), .v (.int .i64 m)] => some (-9223372036854775808 ≤ m ∧ m ≤ 9223372036854775807, .many [.v (.agg #[.int .u64 (w4 (roundV n d (decide (m < 0)) m.natAbs 1 0) 0), .int .u64 (w4 (roundV n d (decide (m < 0)) m.natAbs 1 0) 1), .int .u64 (w4 (roundV n d (decide (m < 0)) m.natAbs 1 0) 2), .int .u64 (w4 (roundV n d (decide (m < 0)) m.natAbs 1 0) 3)]), .v (.int .i64 (roundF n d (decide (m < 0)) m.natAbs 1 0)), .v (.int .i64 (roundE n d))])
  | _ => none
theorem s52_eq (n : Int) (d : Int) (m : Int) : norm s52 [.v (.int .i64 n), .v (.int .i64 d), .v (.int .i64 m)] = s52 [.v (.int .i64 n), .v (.int .i64 d), .v (.int .i64 m)] := rfl
noncomputable def G52 : Gam := [(97, .body, norm s97), (99, .body, norm s99)]
theorem G52_ok : Gk Tryz.prog G52 := Gc sound_97 (Gc sound_99 Gn)
theorem k52_97 : lk G52 97 = some (.body, norm s97) := rfl
theorem k52_99 : lk G52 99 = some (.body, norm s99) := rfl
theorem wk52 (n : Int) (d : Int) (m : Int) (hp : -9223372036854775808 ≤ m ∧ m ≤ 9223372036854775807) : awp ty G52 (code Tryz.f52) (retP ty Tryz.f52.results.toList (.many [.v (.agg #[.int .u64 (w4 (roundV n d (decide (m < 0)) m.natAbs 1 0) 0), .int .u64 (w4 (roundV n d (decide (m < 0)) m.natAbs 1 0) 1), .int .u64 (w4 (roundV n d (decide (m < 0)) m.natAbs 1 0) 2), .int .u64 (w4 (roundV n d (decide (m < 0)) m.natAbs 1 0) 3)]), .v (.int .i64 (roundF n d (decide (m < 0)) m.natAbs 1 0)), .v (.int .i64 (roundE n d))])) (entry 0 [.v (.int .i64 n), .v (.int .i64 d), .v (.int .i64 m)]) [] := by
  unfold code
  simp only [Tryz.f52, Option.getD_some]
  have hmc : (m < 0 ∧ m % 18446744073709551616 = 18446744073709551616 - (m.natAbs : Int)) ∨ (0 ≤ m ∧ m % 18446744073709551616 = (m.natAbs : Int)) := by omega
  obtain ⟨A, hA⟩ : ∃ A, m.natAbs = A := ⟨_, rfl⟩
  have hAl : A ≤ 9223372036854775808 := by omega
  rw [hA] at hmc
  have i1 : (1 : Int).toNat = 1 := rfl
  have hAn : ((A : Int)).toNat = A := Int.toNat_natCast A
  have lA := len_b (x := A) (k := 64) (blen_lt.2 (by omega))
  have l1 := len_b (x := 1) (k := 64) (by decide)
  have hlA : limbs A = [(A : Int)] ∨ (A = 0 ∧ limbs A = []) := by
    rcases Nat.eq_zero_or_pos A with h | h
    · exact .inr ⟨h, by rw [h]; rfl⟩
    · exact .inl (limbs_of_lt (by omega) (by omega))
  rcases hmc with ⟨hm, hmm⟩ | ⟨hm, hmm⟩
  all_goals first
    | (have gm : decide (m < 0) = true := decide_eq_true hm)
    | (have gm : decide (m < 0) = false := decide_eq_false (by omega))
  all_goals have hng : (0 - (18446744073709551616 - (A : Int))) % 18446744073709551616 = (A : Int) := by omega
  all_goals rw [gm, hA]
  all_goals repeat' (first
 | ((with_reducible first | (refine ZA ?_; intro X hX) | (show awp _ _ _ _ (Kp _ _) _) | refine ZD ?_ | refine ZE ?_ | refine ZF ?_ | ((show Bg _ _ _ _ _); simp only [hall]) | (refine ZR ?_ ?_ <;> intro hb <;> (try simp only [hb]) <;> have hq := hb <;> try simp only [HQ] at hq)) <;> try simp only [Go.AM.SS, Nat.reduceAdd, Nat.reduceMul, Nat.reduceSub, ↓reduceIte, Nat.reduceEqDiff, Nat.reduceLT, Nat.reduceLeDiff, reduceCtorEq, Int.reduceBEq, Int.reduceBNe, Nat.reduceBEq, Int.reduceEq, Int.reduceToNat, Int.reduceLE, Int.reduceLT, Nat.reduceDiv, Int.reduceAdd, Int.reduceSub, Int.reduceMul, Int.reduceNeg, Int.reduceGT, Int.reduceGE, Nat.reduceMod, k52_97, s97.eq_1, s97_eq, k52_99, s99.eq_1, s99_eq, s99_nil1, s99_nil2, s99_nil3, ty_2, ty_3, ty_4, ty_22, ty_24, ty_50, gm, hmm, hng, hAn, i1, Vl])
 | with_reducible first
 | (refine hX _ _ ?_; clear hX X)
 | (refine ZG ?_; try clear hall all)
 | (refine hK _ _ ?_; clear hK K)
 | refine ZL ?_
 | (refine v_0 _ _ ?_; try clear v_0 V_0)
 | (refine v_1 _ _ ?_; try clear v_1 V_1)
 | ((first | refine qr 4 [6,7,8] ?_ | refine Zh (a := .seq (.region 2 _ _) _) [0,1,2,6,9] ?_ | refine qr 1 [0,1,2,6,9] ?_ | refine qr 0 [0,1,2,6] ?_); intro V_0 v_0)
 | ((first | refine qr 2 [0,1,2,6,9,13] ?_); intro V_1 v_1)
 | (refine ZM ?_; intro K hK)
 | (refine ZN ?_; intro all hall K hK)
 | (refine ZQ ?_ ?_)
 | refine ZT ?_ | refine ZU ?_ | refine ZW ?_)
  all_goals try clear v_1 V_1
  all_goals try clear v_0 V_0
  all_goals (try simp only [inR])
  all_goals first
    | omega
    | exact ⟨⟨Ml _, by omega⟩, ⟨Ml _, by omega⟩, by rw [sz_limbs]; omega, by rw [sz_limbs]; omega⟩
    | skip
theorem sound_52 : Sound Tryz.prog 52 .body (norm s52) := by
  refine sb Tryz.func52 rfl (by kernel_rfl) G52_ok (by kernel_rfl) fun ds p r hs hp => ?_
  unfold s52 at hs
  split at hs
  · cases hs; exact ⟨Nat.le_of_ble_eq_true (by kernel_rfl), wk52 _ _ _ hp⟩
  · cases hs
noncomputable def s13 : Cs := fun ds => match ds with
  | [.v (.int .i64 m)] => some (-9223372036854775808 ≤ m ∧ m ≤ 9223372036854775807, .one (.v (.bool true)))
  | _ => none
noncomputable def G13 : Gam := [(32, .body, norm s32), (42, .body, norm s42), (49, .body, norm s49), (50, .ext, sF32bits), (51, .ext, sF64bits), (52, .body, norm s52)]
theorem G13_ok : Gk Tryz.prog G13 := Gc sound_32 (Gc sound_42 (Gc sound_49 (Gc ext_50 (Gc ext_51 (Gc sound_52 Gn)))))
theorem k13_32 : lk G13 32 = some (.body, norm s32) := rfl
theorem k13_42 : lk G13 42 = some (.body, norm s42) := rfl
theorem k13_49 : lk G13 49 = some (.body, norm s49) := rfl
theorem k13_50 : lk G13 50 = some (.ext, sF32bits) := rfl
theorem k13_51 : lk G13 51 = some (.ext, sF64bits) := rfl
theorem k13_52 : lk G13 52 = some (.body, norm s52) := rfl
theorem wk13 (m : Int) (hp : -9223372036854775808 ≤ m ∧ m ≤ 9223372036854775807) : awp ty G13 (code Tryz.f13) (retP ty Tryz.f13.results.toList (.one (.v (.bool true)))) (entry 0 [.v (.int .i64 m)]) [] := by
  unfold code
  simp only [Tryz.f13, Option.getD_some]
  have o1 : decide ((4 : Int) ≥ 5) = false := rfl
  have o2 : decide ((4 : Int) ≥ 5) = false := rfl
  have o3 : decide ((4 : Int) ≥ 5) = false := rfl
  have o4 : decide ((4 : Int) ≥ 5) = false := rfl
  have hx : decide ((4 : Int) ≥ 5) = false := rfl
  have n1 : decide ((4 : Int) ≥ 5) = false := rfl
  have n2 : decide ((4 : Int) ≥ 5) = false := rfl
  have z0 : decide ((4 : Int) ≥ 5) = false := rfl
  have z1 : decide ((4 : Int) ≥ 5) = false := rfl
  have z2 : decide ((4 : Int) ≥ 5) = false := rfl
  have z3 : decide ((4 : Int) ≥ 5) = false := rfl
  have y0 : decide ((4 : Int) ≥ 5) = false := rfl
  have y1 : decide ((4 : Int) ≥ 5) = false := rfl
  have y2 : decide ((4 : Int) ≥ 5) = false := rfl
  have y3 : decide ((4 : Int) ≥ 5) = false := rfl
  have c3 : decide ((4 : Int) ≥ 5) = false := rfl
  have c4 : decide ((4 : Int) ≥ 5) = false := rfl
  have h3 : decide ((4 : Int) ≥ 5) = false := rfl
  have h4 : decide ((4 : Int) ≥ 5) = false := rfl
  have hmc : (m < 0 ∧ m % 18446744073709551616 = 18446744073709551616 - (m.natAbs : Int)) ∨ (0 ≤ m ∧ m % 18446744073709551616 = (m.natAbs : Int)) := by omega
  obtain ⟨A, hA⟩ : ∃ A, m.natAbs = A := ⟨_, rfl⟩
  have hAl : A ≤ 9223372036854775808 := by omega
  rw [hA] at hmc
  have i1 : (1 : Int).toNat = 1 := rfl
  have hAn : ((A : Int)).toNat = A := Int.toNat_natCast A
  have lA := len_b (x := A) (k := 64) (blen_lt.2 (by omega))
  have l1 := len_b (x := 1) (k := 64) (by decide)
  have hlA : limbs A = [(A : Int)] ∨ (A = 0 ∧ limbs A = []) := by
    rcases Nat.eq_zero_or_pos A with h | h
    · exact .inr ⟨h, by rw [h]; rfl⟩
    · exact .inl (limbs_of_lt (by omega) (by omega))
  rcases hmc with ⟨hm, hmm⟩ | ⟨hm, hmm⟩
  all_goals first
    | (have gm : decide (m < 0) = true := decide_eq_true hm)
    | (have gm : decide (m < 0) = false := decide_eq_false (by omega))
  all_goals have hng : (0 - (18446744073709551616 - (A : Int))) % 18446744073709551616 = (A : Int) := by omega
  all_goals obtain ⟨c3, c4⟩ := conv_ok hp
  all_goals rw [gm, hA] at c3 c4
  all_goals have hx : val [(A : Int)] = A := val1 A (by omega)
  all_goals have hWl : Go.AM.LN.lim [(A : Int)] := lim_one ⟨by omega, by omega⟩
  all_goals have hW9 : A < 10 ^ 18000 := Nat.lt_of_lt_of_le (show A < 10 ^ 20 by omega) (p10 20 18000 (by decide))
  all_goals have hl20 := decS_w64 (W := A) (by omega)
  case' inl =>
    obtain ⟨o1, o2⟩ := own_rd (n := 3) (s := true) (A := A) (by decide) (by omega)
    obtain ⟨o3, o4⟩ := own_rd (n := 4) (s := true) (A := A) (by decide) (by omega)
    have t : ((if true = true then [45] else []) ++ 48 :: decS A : List UInt8) = 45 :: 48 :: decS A := rfl
    rw [t] at o1 o2 o3 o4
    have r3 := rnd_w64 (n := 3) (s := true) (A := A) (.inl rfl) (by omega)
    have r4 := rnd_w64 (n := 4) (s := true) (A := A) (.inr rfl) (by omega)
    have h3 : roundV 3 0 true A 1 0 = rndV 3 0 true A 1 0 := if_pos (by decide)
    have h4 : roundV 4 0 true A 1 0 = rndV 4 0 true A 1 0 := if_pos (by decide)
    have f3 := rnd_w32 (s := true) (A := A) (by omega)
    generalize rndV 3 0 true A 1 0 = R3 at *
    generalize rndV 4 0 true A 1 0 = R4 at *
    obtain ⟨z0, z1, z2, z3⟩ := w4_lo r3
    obtain ⟨y0, y1, y2, y3⟩ := w4_lo r4
  case' inr =>
    obtain ⟨o1, o2⟩ := own_rd (n := 3) (s := false) (A := A) (by decide) (by omega)
    obtain ⟨o3, o4⟩ := own_rd (n := 4) (s := false) (A := A) (by decide) (by omega)
    have t : ((if false = true then [45] else []) ++ 48 :: decS A : List UInt8) = 48 :: decS A := rfl
    rw [t] at o1 o2 o3 o4
    have r3 := rnd_w64 (n := 3) (s := false) (A := A) (.inl rfl) (by omega)
    have r4 := rnd_w64 (n := 4) (s := false) (A := A) (.inr rfl) (by omega)
    have h3 : roundV 3 0 false A 1 0 = rndV 3 0 false A 1 0 := if_pos (by decide)
    have h4 : roundV 4 0 false A 1 0 = rndV 4 0 false A 1 0 := if_pos (by decide)
    have f3 := rnd_w32 (s := false) (A := A) (by omega)
    generalize rndV 3 0 false A 1 0 = R3 at *
    generalize rndV 4 0 false A 1 0 = R4 at *
    obtain ⟨z0, z1, z2, z3⟩ := w4_lo r3
    obtain ⟨y0, y1, y2, y3⟩ := w4_lo r4
  all_goals repeat' (first
 | ((with_reducible first | (refine ZA ?_; intro X hX) | (show awp _ _ _ _ (Kp _ _) _) | refine ZD ?_ | refine ZE ?_ | refine ZF ?_ | ((show Bg _ _ _ _ _); simp only [hall]) | (refine ZR ?_ ?_ <;> intro hb <;> (try simp only [hb]) <;> have hq := hb <;> try simp only [HQ] at hq)) <;> try simp only [Go.AM.SS, Nat.reduceAdd, Nat.reduceMul, Nat.reduceSub, ↓reduceIte, Nat.reduceEqDiff, Nat.reduceLT, Nat.reduceLeDiff, reduceCtorEq, Int.reduceBEq, Int.reduceBNe, Nat.reduceBEq, Int.reduceEq, Int.reduceToNat, Int.reduceLE, Int.reduceLT, Nat.reduceDiv, Int.reduceAdd, Int.reduceSub, Int.reduceMul, Int.reduceNeg, Int.reduceGT, Int.reduceGE, Nat.reduceMod, k13_32, s32.eq_1, s32_eq, k13_42, s42.eq_1, s42_eq, s42_nil1, k13_49, s49.eq_1, s49_eq, k13_50, sF32bits_eq, k13_51, sF64bits_eq, k13_52, s52.eq_1, s52_eq, ty_2, ty_3, ty_4, ty_9, ty_22, ty_24, ty_26, ty_50, ty_68, ty_70, ty_72, beq_self_eq_true, gm, hmm, hng, hAn, hA, i1, Vl, toInts, o1, o2, o3, o4, hx, n1, n2, z0, z1, z2, z3, y0, y1, y2, y3, c3, c4, h3, h4, bs_lit, bs_app, Bz, bs_beq, Bi, Bd, Be, bt_bs, List.length_append, List.append_nil, List.nil_append, List.cons_append])
 | with_reducible first
 | (refine hX _ _ ?_; clear hX X)
 | (refine ZG ?_; try clear hall all)
 | (refine hK _ _ ?_; clear hK K)
 | refine ZL ?_
 | (refine v_0 _ _ ?_; try clear v_0 V_0)
 | (refine v_1 _ _ ?_; try clear v_1 V_1)
 | ((first | refine qr 14 [2] ?_ | refine qr 13 [5,6,7,10,13,15,16,18] ?_ | refine qr 12 [4,5,6,7,10,13,15] ?_ | refine qr 11 [4,5,6,7,10] ?_ | refine qr 10 [0,4,5,6,7] ?_ | refine qr 9 [0,4,5,6] ?_ | refine qr 8 [0,4] ?_ | refine Zh (a := .seq (.region 5 _ _) _) [0,3,4] ?_ | refine qr 4 [0,3,4] ?_ | refine qr 3 [0,3] ?_ | refine Zh (a := .seq (.region 1 _ _) _) [0] ?_ | refine qr 0 [0] ?_); intro V_0 v_0)
 | ((first | refine qr 6 [0,3] ?_ | refine qr 5 [0,3,4,24] ?_ | refine qr 2 [2] ?_ | refine qr 1 [0,20] ?_); intro V_1 v_1)
 | (refine ZM ?_; intro K hK)
 | (refine ZN ?_; intro all hall K hK)
 | (refine ZQ ?_ ?_)
 | refine ZT ?_ | refine ZU ?_ | refine ZW ?_)
  all_goals try clear v_1 V_1
  all_goals try clear v_0 V_0
  all_goals (try simp only [inR])
  all_goals first
    | omega
    | exact ⟨hWl, hW9⟩
    | skip
theorem sound_13 : Sound Tryz.prog 13 .body (norm s13) := by
  refine sb Tryz.func13 rfl (by kernel_rfl) G13_ok (by kernel_rfl) fun ds p r hs hp => ?_
  unfold s13 at hs
  split at hs
  · cases hs; exact ⟨Nat.le_of_ble_eq_true (by kernel_rfl), wk13 _ hp⟩
  · cases hs
end Go.Proofs.AMT
