/- Part of the proof: own text. -/
import Derived.Test.YthdbkmpkebdliaaGreatDoorKI0
import Derived.Test.YthdbkmpkebdliaaGreatDoorKB0
import Derived.Test.YthdbkmpkebdliaaGreatDoorKH0
set_option linter.all false
set_option maxHeartbeats 20000000
set_option maxRecDepth 20000
namespace Go.Proofs.AMT
open Go.AM Go.AM.LN
attribute [local congr] bindO_congr bindS_congr bindG_congr awpOps_congr aOne_congr awp_congr aCond_congr awpD_congr dOne_congr keysB_congr nOne_congr thenP_congr blockP_congr Chk_congr Brk_congr
noncomputable def s45 : Cs := fun ds => match ds with
  | [.v (.agg ⟨[.int .i64 cl, .bool sg, .bool si, .string D, .int .i64 ex]⟩)] => some (D.size ≤ 10000 ∧ -9223372036854775808 ≤ ex ∧ ex ≤ 9223372036854775807, .many [.v (.string (bs (if gGood cl sg si D.data.toList ex then (gText cl sg si D.data.toList ex) else []))), .v (.int .i64 (if gGood cl sg si D.data.toList ex then 0 else 1))])
  | _ => none
theorem s45_eq (cl : Int) (sg : Bool) (si : Bool) (D : ByteArray) (ex : Int) : norm s45 [.v (.agg #[.int .i64 cl, .bool sg, .bool si, .string D, .int .i64 ex])] = s45 [.v (.agg #[.int .i64 cl, .bool sg, .bool si, .string D, .int .i64 ex])] := rfl
noncomputable def G45 : Gam := [(102, .body, norm s102), (110, .body, norm s110)]
theorem G45_ok : Gk Tryz.prog G45 := Gc sound_102 (Gc sound_110 Gn)
theorem k45_102 : lk G45 102 = some (.body, norm s102) := rfl
theorem k45_110 : lk G45 110 = some (.body, norm s110) := rfl
theorem wk45 (cl : Int) (sg : Bool) (si : Bool) (D : ByteArray) (ex : Int) (hp : D.size ≤ 10000 ∧ -9223372036854775808 ≤ ex ∧ ex ≤ 9223372036854775807) : awp ty G45 (code Tryz.f45) (retP ty Tryz.f45.results.toList (.many [.v (.string (bs (if gGood cl sg si D.data.toList ex then (gText cl sg si D.data.toList ex) else []))), .v (.int .i64 (if gGood cl sg si D.data.toList ex then 0 else 1))])) (entry 0 [.v (.agg #[.int .i64 cl, .bool sg, .bool si, .string D, .int .i64 ex])]) [] := by
  unfold code
  simp only [Tryz.f45, Option.getD_some]
  obtain ⟨d, rfl⟩ : ∃ d, D = bs d := ⟨_, Bt D⟩
  rw [Bz] at hp
  rw [Bd]
  rcases Bool.eq_false_or_eq_true (gGood cl sg si d ex) with hG | hG
  all_goals rw [hG]
  all_goals repeat' (first
 | ((with_reducible first | (refine ZA ?_; intro X hX) | (show awp _ _ _ _ (Kp _ _) _) | refine ZD ?_ | refine ZE ?_ | refine ZF ?_ | ((show Bg _ _ _ _ _); simp only [hall]) | (refine ZR ?_ ?_ <;> intro hb <;> (try simp only [hb]) <;> have hq := hb <;> try simp only [HQ] at hq)) <;> try simp only [Go.AM.SS, Nat.reduceAdd, Nat.reduceMul, Nat.reduceSub, ↓reduceIte, Nat.reduceEqDiff, Nat.reduceLT, Nat.reduceLeDiff, reduceCtorEq, Int.reduceBEq, Int.reduceBNe, Nat.reduceBEq, Int.reduceEq, Int.reduceToNat, Int.reduceLE, Int.reduceLT, Nat.reduceDiv, Int.reduceAdd, Int.reduceSub, Int.reduceMul, Int.reduceNeg, Int.reduceGT, Int.reduceGE, Nat.reduceMod, k45_102, s102.eq_1, s102_eq, k45_110, s110.eq_1, s110_eq, ty_3, ty_4, ty_9, ty_42, bs_lit, bs_app, Bz, bs_beq, Bi, Bd, Be, bt_bs, List.length_append, List.append_nil, List.nil_append, List.cons_append, hG])
 | with_reducible first
 | (refine hX _ _ ?_; clear hX X)
 | (refine ZG ?_; try clear hall all)
 | (refine hK _ _ ?_; clear hK K)
 | refine ZL ?_
 | (refine v_0 _ _ ?_; try clear v_0 V_0)
 | (refine v_1 _ _ ?_; try clear v_1 V_1)
 | ((first | refine qr 3 [2,3] ?_ | refine Zh (a := .seq (.region 1 _ _) _) [1] ?_ | refine qr 0 [1] ?_); intro V_0 v_0)
 | ((first | refine qr 2 [2,3] ?_ | refine qr 1 [1,6] ?_); intro V_1 v_1)
 | (refine ZM ?_; intro K hK)
 | (refine ZN ?_; intro all hall K hK)
 | (refine ZQ ?_ ?_)
 | refine ZT ?_ | refine ZU ?_ | refine ZW ?_)
  all_goals try clear v_1 V_1
  all_goals try clear v_0 V_0
  all_goals (try simp only [inR])
  all_goals first
    | omega
    | skip
theorem sound_45 : Sound Tryz.prog 45 .body (norm s45) := by
  refine sb Tryz.func45 rfl (by kernel_rfl) G45_ok (by kernel_rfl) fun ds p r hs hp => ?_
  unfold s45 at hs
  split at hs
  · cases hs; exact ⟨Nat.le_of_ble_eq_true (by kernel_rfl), wk45 _ _ _ _ _ hp⟩
  · cases hs
noncomputable def s10 : Cs := fun ds => match ds with
  | [.v (.int .i64 n), .v (.int .i64 r), .v (.int .u64 w), .v (.int .i16 x), .v (.int .u8 c), .v (.bool s)] => some ((0 ≤ w ∧ w < 18446744073709551616) ∧ (-32768 ≤ x ∧ x ≤ 32767) ∧ 0 ≤ c ∧ c < 256, .one (.v (.bool true)))
  | _ => none
noncomputable def G10 : Gam := [(31, .body, norm s31), (32, .body, norm s32), (34, .body, norm s34), (37, .body, norm s37), (42, .body, norm s42), (44, .body, norm s44), (45, .body, norm s45)]
theorem G10_ok : Gk Tryz.prog G10 := Gc sound_31 (Gc sound_32 (Gc sound_34 (Gc sound_37 (Gc sound_42 (Gc sound_44 (Gc sound_45 Gn))))))
theorem k10_31 : lk G10 31 = some (.body, norm s31) := rfl
theorem k10_32 : lk G10 32 = some (.body, norm s32) := rfl
theorem k10_34 : lk G10 34 = some (.body, norm s34) := rfl
theorem k10_37 : lk G10 37 = some (.body, norm s37) := rfl
theorem k10_42 : lk G10 42 = some (.body, norm s42) := rfl
theorem k10_44 : lk G10 44 = some (.body, norm s44) := rfl
theorem k10_45 : lk G10 45 = some (.body, norm s45) := rfl
theorem wk10 (n : Int) (r : Int) (w : Int) (x : Int) (c : Int) (s : Bool) (hp : (0 ≤ w ∧ w < 18446744073709551616) ∧ (-32768 ≤ x ∧ x ≤ 32767) ∧ 0 ≤ c ∧ c < 256) : awp ty G10 (code Tryz.f10) (retP ty Tryz.f10.results.toList (.one (.v (.bool true)))) (entry 0 [.v (.int .i64 n), .v (.int .i64 r), .v (.int .u64 w), .v (.int .i16 x), .v (.int .u8 c), .v (.bool s)]) [] := by
  unfold code
  simp only [Tryz.f10, Option.getD_some]
  have gk : decide ((4 : Int) ≥ 5) = false := rfl
  have gR : decide ((4 : Int) ≥ 5) = false := rfl
  have hx : decide ((4 : Int) ≥ 5) = false := rfl
  have hd : decide ((4 : Int) ≥ 5) = false := rfl
  have hQ : decide ((4 : Int) ≥ 5) = false := rfl
  have hG : decide ((4 : Int) ≥ 5) = false := rfl
  have a1 : decide ((4 : Int) ≥ 5) = false := rfl
  have a3 : decide ((4 : Int) ≥ 5) = false := rfl
  have a4 : decide ((4 : Int) ≥ 5) = false := rfl
  have a5 : decide ((4 : Int) ≥ 5) = false := rfl
  have b1 : decide ((4 : Int) ≥ 5) = false := rfl
  have b2 : decide ((4 : Int) ≥ 5) = false := rfl
  have b3 : decide ((4 : Int) ≥ 5) = false := rfl
  obtain ⟨W, rfl⟩ : ∃ W : Nat, w = (W : Int) := ⟨w.toNat, by omega⟩
  obtain ⟨Q, hQ⟩ : ∃ Q : Nat, c.tmod 30 = (Q : Int) := ⟨(c.tmod 30).toNat, by have := Int.tmod_nonneg 30 (show 0 ≤ c by omega); omega⟩
  have hQl : Q ≤ 29 := by have := Int.tmod_lt_of_pos c (show (0 : Int) < 30 by decide); omega
  have hx : val [(W : Int)] = W := val1 W (by omega)
  have hWl : lim [(W : Int)] := lim_one ⟨by omega, by omega⟩
  have hW9 : W < 10 ^ 18000 := Nat.lt_of_lt_of_le (show W < 10 ^ 20 by omega) (p10 20 18000 (by decide))
  have hok := decS_ok W
  have hdl := decS_w64 (W := W) (by omega)
  obtain ⟨d, hd⟩ : ∃ d, decS W = d := ⟨_, rfl⟩
  rw [hd] at hok hdl
  have hq7 := fun j => q_len (d := d) x j
  have hc : ¬ (1 ≤ n ∧ n ≤ 6) ∨ ((1 ≤ n ∧ n ≤ 6) ∧ ¬ (0 ≤ r ∧ r ≤ 4)) ∨ ((1 ≤ n ∧ n ≤ 6) ∧ 0 ≤ r ∧ r ≤ 4) := by omega
  rcases hc with hn | ⟨hn, hr⟩ | ⟨hn, hr⟩
  case' inl =>
    have gk : (decide (n ≥ 1) && decide (n ≤ 6)) = false := by
      rw [Bool.and_eq_false_iff, decide_eq_false_iff_not, decide_eq_false_iff_not]; omega
  case' inr.inl =>
    have gk : (decide (n ≥ 1) && decide (n ≤ 6)) = true := by rw [decide_eq_true (by omega : n ≥ 1), decide_eq_true (by omega : n ≤ 6)]; rfl
    have gR : (decide (r ≥ 0) && decide (r ≤ 4)) = false := by
      rw [Bool.and_eq_false_iff, decide_eq_false_iff_not, decide_eq_false_iff_not]; omega
  case' inr.inr =>
    have gk : (decide (n ≥ 1) && decide (n ≤ 6)) = true := by rw [decide_eq_true (by omega : n ≥ 1), decide_eq_true (by omega : n ≤ 6)]; rfl
    have gR : (decide (r ≥ 0) && decide (r ≤ 4)) = true := by rw [decide_eq_true (by omega : r ≥ 0), decide_eq_true (by omega : r ≤ 4)]; rfl
    have hR := okR_y hn hr
    obtain ⟨a1, hG, a3, a4, a5⟩ := spelt_rd (s := s) (d := d) (x := x) hR hok (by omega) ⟨by omega, by omega⟩
    obtain ⟨b1, b2, b3⟩ := q_make (s := s) (d := d) (x := x) (k := Q) hn hR hok (by omega) (by omega) ⟨by omega, by omega⟩
  all_goals repeat' (first
 | ((with_reducible first | (refine ZA ?_; intro X hX) | (show awp _ _ _ _ (Kp _ _) _) | refine ZD ?_ | refine ZE ?_ | refine ZF ?_ | ((show Bg _ _ _ _ _); simp only [hall]) | (refine ZR ?_ ?_ <;> intro hb <;> (try simp only [hb]) <;> have hq := hb <;> try simp only [HQ] at hq)) <;> try simp only [Go.AM.SS, Nat.reduceAdd, Nat.reduceMul, Nat.reduceSub, ↓reduceIte, Nat.reduceEqDiff, Nat.reduceLT, Nat.reduceLeDiff, reduceCtorEq, Int.reduceBEq, Int.reduceBNe, Nat.reduceBEq, Int.reduceEq, Int.reduceToNat, Int.reduceLE, Int.reduceLT, Nat.reduceDiv, Int.reduceAdd, Int.reduceSub, Int.reduceMul, Int.reduceNeg, Int.reduceGT, Int.reduceGE, Nat.reduceMod, k10_31, s31.eq_1, s31_eq, k10_32, s32.eq_1, s32_eq, k10_34, s34.eq_1, s34_eq, k10_37, s37.eq_1, s37_eq, k10_42, s42.eq_1, s42_eq, s42_nil1, k10_44, s44.eq_1, s44_eq, k10_45, s45.eq_1, s45_eq, ty_3, ty_4, ty_5, ty_9, ty_22, ty_24, ty_26, ty_42, ty_44, ty_50, ty_58, toInts, beq_self_eq_true, gk, gR, hx, hd, hQ, hG, a1, a3, a4, a5, b1, b2, b3, bs_lit, bs_app, Bz, bs_beq, Bi, Bd, Be, bt_bs, List.length_append, List.append_nil, List.nil_append, List.cons_append])
 | with_reducible first
 | (refine hX _ _ ?_; clear hX X)
 | (refine ZG ?_; try clear hall all)
 | (refine hK _ _ ?_; clear hK K)
 | refine ZL ?_
 | (refine v_0 _ _ ?_; try clear v_0 V_0)
 | (refine v_1 _ _ ?_; try clear v_1 V_1)
 | (refine v_2 _ _ ?_; try clear v_2 V_2)
    | (with_reducible refine awp_lp (c := .seq (.region 8 _ _) _) (σ := Nat) (fun j => j ≤ Q) (fun j => [(0, .v (.int .i64 n)), (1, .v (.int .i64 r)), (3, .v (.int .i16 x)), (5, .v (.bool s)), (14, .v (.string (bs d))), (15, .ref 240 0), (16, .ref 256 0), (53, .v (.int .i64 Q)), (54, .v (.int .i64 j))]) (fun j => [(240, .vals [.int .i64 1, .bool s, .bool false, .string (bs d), .int .i64 x], false), (256, .vals [.int .i64 1, .bool s, .bool false, .string (bs (qD d j)), .int .i64 (qX d x j)], false)]) (fun j => Q - j) 0 ?_ ?_ (fun j hj => ?_))
 | ((first | refine qr 17 [12] ?_ | refine qr 16 [17,18,19,20,21,22,25,26,27] ?_ | refine qr 15 [0,1,17,18,19,20,21,22,23] ?_ | refine qr 14 [0,1,3,5,14,17,18,19,20,21,22] ?_ | refine qr 13 [0,1,3,5,14,16,17,18,19] ?_ | refine Zh (a := .seq (.region 7 _ _) _) [0,1,3,5,14,15,16] ?_ | refine qr 6 [0,1,3,5,13,14,15,16] ?_ | refine qr 5 [0,1,3,5,13,14,15] ?_ | refine qr 4 [0,1,3,5,13,14] ?_ | refine qr 3 [0,1,2,3,5,13] ?_ | refine Zh (a := .seq (.region 1 _ _) _) [0,1,2,3,4,5] ?_ | refine qr 0 [0,1,2,3,4,5] ?_); intro V_0 v_0)
 | ((first | refine qb 1 [0,1,3,5,14,15,16,53,54] ?_ | refine Zh (a := .cond (.tmp 55) _ _) [0,1,3,5,14,15,16,53,54] ?_ | refine qr 8 [0,1,3,5,14,15,16,53,54,55] ?_ | refine qr 7 [0,1,3,5,14,15,16,53,54] ?_ | refine qr 2 [12] ?_ | refine qr 1 [0,1,2,3,4,5,39] ?_); intro V_1 v_1)
 | ((first | refine qr 10 [0,1,3,5,14,15,16,53,54] ?_ | refine qr 9 [0,1,3,5,14,15,16,53,54,57] ?_); intro V_2 v_2)
 | (refine ZM ?_; intro K hK)
 | (refine ZN ?_; intro all hall K hK)
 | (refine ZQ ?_ ?_)
 | (refine Zg ?_; simp only [↓reduceIte, Nat.reduceEqDiff])
 | refine ZS ?_ | refine ZT ?_ | refine ZU ?_ | refine ZV ?_ | refine ZW ?_ | refine ZX ?_ | refine ZY ?_ | refine ZZ ?_ | refine Za ?_ | refine Ze ?_ | refine Zf ?_)
  all_goals try clear v_2 V_2
  all_goals try clear v_1 V_1
  all_goals try clear v_0 V_0
  all_goals (try simp only [inR])
  all_goals first
    | omega
    | exact ⟨hWl, hW9⟩
    | (have h8 := gText_le (c := 1) (s := s) (q := false) (d := d) (x := x) ⟨by omega, by omega⟩; omega)
    | (rw [(q_0 d x).1, (q_0 d x).2]; (refine Eo [(240, 240), (256, 256)] rfl ?_ ?_ <;> simp [Me, Sl, AvLe, lk, Ct.len]))
    | (have h7 := hq7 j; omega)
    | (have h7 := hq7 j; exact ⟨by omega, by omega, by omega⟩)
    | (rw [(q_step (by assumption) x j).1, (q_step (by assumption) x j).2]; exact ⟨j + 1, (by (refine Eo [(240, 240), (256, 256)] rfl ?_ ?_ <;> simp [Me, Sl, AvLe, lk, Ct.len])), by omega, by omega⟩)
    | (rw [(q_stay (by assumption) x j).1, (q_stay (by assumption) x j).2]; exact ⟨j + 1, (by (refine Eo [(240, 240), (256, 256)] rfl ?_ ?_ <;> simp [Me, Sl, AvLe, lk, Ct.len])), by omega, by omega⟩)
    | (exfalso; obtain ⟨k1, k2, k3⟩ := q_make (s := s) (d := d) (x := x) (k := j) hn hR hok (by omega) (by omega) ⟨by omega, by omega⟩; simp only [k1, k2, k3, beq_self_eq_true, Bool.and_self, Bool.true_eq_false, not_true_eq_false, forall_const, true_implies] at *)
    | skip
theorem sound_10 : Sound Tryz.prog 10 .body (norm s10) := by
  refine sb Tryz.func10 rfl (by kernel_rfl) G10_ok (by kernel_rfl) fun ds p r hs hp => ?_
  unfold s10 at hs
  split at hs
  · cases hs; exact ⟨Nat.le_of_ble_eq_true (by kernel_rfl), wk10 _ _ _ _ _ _ hp⟩
  · cases hs
end Go.Proofs.AMT
