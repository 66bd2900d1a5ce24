/- Part of the proof: own text. -/
import Derived.Test.YthdbkmpkebdliaaGreatDoorKA14
set_option linter.all false
set_option maxHeartbeats 20000000
set_option maxRecDepth 20000
namespace Go.Proofs.AMT
open Go.AM Go.AM.LN
attribute [local congr] bindO_congr bindS_congr bindG_congr awpOps_congr aOne_congr awp_congr aCond_congr awpD_congr dOne_congr keysB_congr nOne_congr thenP_congr blockP_congr Chk_congr Brk_congr
noncomputable def s110 : Cs := fun ds => match ds with
  | [.v (.agg ⟨[.int .i64 cl, .bool sg, .bool si, .string D, .int .i64 ex]⟩)] => some (D.size ≤ 10000 ∧ -9223372036854775808 ≤ ex ∧ ex ≤ 9223372036854775807, .one (.v (.string (bs (gText cl sg si D.data.toList ex)))))
  | _ => none
theorem s110_eq (cl : Int) (sg : Bool) (si : Bool) (D : ByteArray) (ex : Int) : norm s110 [.v (.agg #[.int .i64 cl, .bool sg, .bool si, .string D, .int .i64 ex])] = s110 [.v (.agg #[.int .i64 cl, .bool sg, .bool si, .string D, .int .i64 ex])] := rfl
noncomputable def G110 : Gam := [(66, .body, norm lItoa)]
theorem G110_ok : Gk Tryz.prog G110 := Gc snd_lItoa Gn
theorem k110_66 : lk G110 66 = some (.body, norm lItoa) := rfl
theorem wk110 (cl : Int) (sg : Bool) (si : Bool) (D : ByteArray) (ex : Int) (hp : D.size ≤ 10000 ∧ -9223372036854775808 ≤ ex ∧ ex ≤ 9223372036854775807) : awp ty G110 (code Tryz.f110) (retP ty Tryz.f110.results.toList (.one (.v (.string (bs (gText cl sg si D.data.toList ex)))))) (entry 0 [.v (.agg #[.int .i64 cl, .bool sg, .bool si, .string D, .int .i64 ex])]) [] := by
  unfold code
  simp only [Tryz.f110, Option.getD_some]
  obtain ⟨d, rfl⟩ : ∃ d, D = bs d := ⟨_, Bt D⟩
  rw [Bz] at hp
  rw [Bd]
  have hil := Go.Lib.itoa_length_le ex hp.2.1 hp.2.2
  all_goals repeat' (first
 | ((with_reducible first | (refine ZA ?_; intro X hX) | (show awp _ _ _ _ (Kp _ _) _) | refine ZD ?_ | refine ZE ?_ | refine ZF ?_ | ((show Bg _ _ _ _ _); simp only [hall]) | (refine ZR ?_ ?_ <;> intro hb <;> (try simp only [hb]) <;> have hq := hb <;> try simp only [HQ] at hq)) <;> try simp only [Go.AM.SS, Nat.reduceAdd, Nat.reduceMul, Nat.reduceSub, ↓reduceIte, Nat.reduceEqDiff, Nat.reduceLT, Nat.reduceLeDiff, reduceCtorEq, Int.reduceBEq, Int.reduceBNe, Nat.reduceBEq, Int.reduceEq, Int.reduceToNat, Int.reduceLE, Int.reduceLT, Nat.reduceDiv, Int.reduceAdd, Int.reduceSub, Int.reduceMul, Int.reduceNeg, Int.reduceGT, Int.reduceGE, Nat.reduceMod, k110_66, lItoa_eq, ty_3, ty_4, ty_9, ty_42, bs_lit, bs_app, Bz, bs_beq, Bi, Bd, Be, bt_bs, List.length_append, List.append_nil, List.nil_append, List.cons_append])
 | with_reducible first
 | (refine hX _ _ ?_; clear hX X)
 | (refine ZG ?_; try clear hall all)
 | (refine hK _ _ ?_; clear hK K)
 | refine ZL ?_
 | (refine v_0 _ _ ?_; try clear v_0 V_0)
 | (refine v_1 _ _ ?_; try clear v_1 V_1)
 | (refine v_2 _ _ ?_; try clear v_2 V_2)
 | ((first | refine qr 19 [2] ?_ | refine Zh (a := .seq (.region 17 _ _) _) [3] ?_ | refine qr 16 [1,3] ?_ | refine Zh (a := .seq (.region 14 _ _) _) [1,3] ?_ | refine Zh (a := .seq (.region 4 _ _) _) [1,3] ?_ | refine Zh (a := .seq (.region 2 _ _) _) [1,3] ?_ | refine qr 1 [1,3] ?_ | refine qr 0 [1] ?_); intro V_0 v_0)
 | ((first | refine qr 17 [1,3,41] ?_ | refine qr 14 [1,3,32] ?_ | refine qr 6 [2] ?_ | refine qr 13 [2] ?_ | refine Zh (a := .seq (.region 11 _ _) _) [3] ?_ | refine qr 10 [1,3] ?_ | refine Zh (a := .seq (.region 8 _ _) _) [1,3] ?_ | refine qr 7 [1,3,12] ?_ | refine qr 5 [1,3,7,8] ?_ | refine qr 4 [1,3,7] ?_ | refine qr 2 [1,3,5] ?_); intro V_1 v_1)
 | ((first | refine qr 11 [1,3,22] ?_ | refine qr 8 [1,3,15] ?_); intro V_2 v_2)
 | (refine ZM ?_; intro K hK)
 | (refine ZN ?_; intro all hall K hK)
 | (refine ZQ ?_ ?_)
 | (refine Zg ?_; simp only [↓reduceIte, Nat.reduceEqDiff])
 | refine ZS ?_ | refine ZT ?_ | refine ZU ?_ | refine ZV ?_ | refine ZW ?_ | refine ZX ?_ | refine Ze ?_ | refine Zf ?_)
  all_goals try clear v_2 V_2
  all_goals try clear v_1 V_1
  all_goals try clear v_0 V_0
  all_goals (try simp only [inR])
  all_goals first
    | omega
    | (have e1 : ¬ (cl = 2 ∨ cl = 3) := by omega
       unfold gText; rw [if_neg e1]; simp_all; done)
    | (have e1 : cl = 2 ∨ cl = 3 := by omega
       unfold gText nanT; rw [if_pos e1]; simp_all; done)
    | skip
theorem sound_110 : Sound Tryz.prog 110 .body (norm s110) := by
  refine sb Tryz.func110 rfl (by kernel_rfl) G110_ok (by kernel_rfl) fun ds p r hs hp => ?_
  unfold s110 at hs
  split at hs
  · cases hs; exact ⟨Nat.le_of_ble_eq_true (by kernel_rfl), wk110 _ _ _ _ _ hp⟩
  · cases hs
noncomputable def s171 : Cs := fun ds => match ds with
  | [.v (.string s)] => some (s.size ≤ 100000, .one (.v (.bool (!s.data.toList.isEmpty && s.data.toList.all isDg))))
  | _ => none
theorem s171_eq (s : ByteArray) : norm s171 [.v (.string s)] = s171 [.v (.string s)] := rfl
noncomputable def G171 : Gam := []
theorem G171_ok : Gk Tryz.prog G171 := Gn
theorem wk171 (s : ByteArray) (hp : s.size ≤ 100000) : awp ty G171 (code Tryz.f171) (retP ty Tryz.f171.results.toList (.one (.v (.bool (!s.data.toList.isEmpty && s.data.toList.all isDg))))) (entry 0 [.v (.string s)]) [] := by
  unfold code
  simp only [Tryz.f171, Option.getD_some]
  obtain ⟨l, rfl⟩ : ∃ l, s = bs l := ⟨_, Bt s⟩
  rw [Bz] at hp
  rw [Bd]
  all_goals repeat' (first
 | ((with_reducible first | (refine ZA ?_; intro X hX) | (show awp _ _ _ _ (Kp _ _) _) | refine ZD ?_ | refine ZE ?_ | refine ZF ?_ | ((show Bg _ _ _ _ _); simp only [hall]) | (refine ZR ?_ ?_ <;> intro hb <;> (try simp only [hb]) <;> have hq := hb <;> try simp only [HQ] at hq)) <;> try simp only [Go.AM.SS, Nat.reduceAdd, Nat.reduceMul, Nat.reduceSub, ↓reduceIte, Nat.reduceEqDiff, Nat.reduceLT, Nat.reduceLeDiff, reduceCtorEq, Int.reduceBEq, Int.reduceBNe, Nat.reduceBEq, Int.reduceEq, Int.reduceToNat, Int.reduceLE, Int.reduceLT, Nat.reduceDiv, Int.reduceAdd, Int.reduceSub, Int.reduceMul, Int.reduceNeg, Int.reduceGT, Int.reduceGE, Nat.reduceMod, ty_3, ty_5, ty_9, bs_lit, bs_app, Bz, bs_beq, Bi, Bd, Be, bt_bs, List.length_append, List.append_nil, List.nil_append, List.cons_append])
 | with_reducible first
 | (refine hX _ _ ?_; clear hX X)
 | (refine ZG ?_; try clear hall all)
 | (refine hK _ _ ?_; clear hK K)
 | refine ZL ?_
 | (refine v_0 _ _ ?_; try clear v_0 V_0)
 | (refine v_1 _ _ ?_; try clear v_1 V_1)
 | (refine v_2 _ _ ?_; try clear v_2 V_2)
    | (with_reducible refine awp_lp (c := .seq (.seq (.region 2 _ _) _) _) (σ := Nat) (fun k => k ≤ l.length ∧ (l.take k).all isDg = true) (fun k => [(0, .v (.string (bs l))), (3, .v (.int .i64 k))]) (fun k => []) (fun k => l.length - k) 0 ?_ ?_ (fun k hk => ?_))
 | ((first | refine qr 6 [2] ?_ | refine Zh (a := .seq (.region 1 _ _) _) [0] ?_ | refine qr 0 [0] ?_); intro V_0 v_0)
 | ((first | refine qb 1 [0,3] ?_ | refine Zh (a := .seq (.region 2 _ _) _) [0,3] ?_ | refine qr 1 [0,3] ?_); intro V_1 v_1)
 | ((first | refine qr 5 [2] ?_ | refine qr 4 [0,3,19] ?_ | refine qr 2 [0,3,7] ?_); intro V_2 v_2)
 | (refine ZM ?_; intro K hK)
 | (refine ZN ?_; intro all hall K hK)
 | (refine ZQ ?_ ?_)
 | (refine Zg ?_; simp only [↓reduceIte, Nat.reduceEqDiff])
 | refine ZS ?_ | refine ZT ?_ | refine ZU ?_ | refine ZV ?_ | refine ZW ?_ | refine ZX ?_ | refine ZY ?_ | refine ZZ ?_ | refine Za ?_ | refine Ze ?_ | refine Zf ?_)
  all_goals try clear v_2 V_2
  all_goals try clear v_1 V_1
  all_goals try clear v_0 V_0
  all_goals (try simp only [inR])
  all_goals first
    | omega
    | exact ⟨Nat.zero_le _, rfl⟩
    | ((refine Eo [] rfl ?_ ?_ <;> simp [Me, Sl, AvLe, lk]); done)
    | exact ⟨k + 1, (by (refine Eo [] rfl ?_ ?_ <;> simp [Me, Sl, AvLe, lk])), ⟨by omega, run_step (by assumption) hk.2 (by assumption) (by assumption)⟩, by omega⟩
    | (rw [digits_no (by assumption) (isDg_hi hq)]; done)
    | (rw [digits_no (by assumption) (isDg_lo hq)]; done)
    | (rw [digits_end hk.2 hq]; done)
    | skip
theorem sound_171 : Sound Tryz.prog 171 .body (norm s171) := by
  refine sb Tryz.func171 rfl (by kernel_rfl) G171_ok (by kernel_rfl) fun ds p r hs hp => ?_
  unfold s171 at hs
  split at hs
  · cases hs; exact ⟨Nat.le_of_ble_eq_true (by kernel_rfl), wk171 _ hp⟩
  · cases hs
noncomputable def s102 : Cs := fun ds => match ds with
  | [.v (.agg ⟨[.int .i64 cl, .bool sg, .bool si, .string D, .int .i64 ex]⟩)] => some (D.size ≤ 10000 ∧ -9223372036854775808 ≤ ex ∧ ex ≤ 9223372036854775807, .one (.v (.bool (gGood cl sg si D.data.toList ex))))
  | _ => none
theorem s102_eq (cl : Int) (sg : Bool) (si : Bool) (D : ByteArray) (ex : Int) : norm s102 [.v (.agg #[.int .i64 cl, .bool sg, .bool si, .string D, .int .i64 ex])] = s102 [.v (.agg #[.int .i64 cl, .bool sg, .bool si, .string D, .int .i64 ex])] := rfl
noncomputable def G102 : Gam := [(110, .body, norm s110), (171, .body, norm s171)]
theorem G102_ok : Gk Tryz.prog G102 := Gc sound_110 (Gc sound_171 Gn)
theorem k102_110 : lk G102 110 = some (.body, norm s110) := rfl
theorem k102_171 : lk G102 171 = some (.body, norm s171) := rfl
theorem wk102 (cl : Int) (sg : Bool) (si : Bool) (D : ByteArray) (ex : Int) (hp : D.size ≤ 10000 ∧ -9223372036854775808 ≤ ex ∧ ex ≤ 9223372036854775807) : awp ty G102 (code Tryz.f102) (retP ty Tryz.f102.results.toList (.one (.v (.bool (gGood cl sg si D.data.toList ex))))) (entry 0 [.v (.agg #[.int .i64 cl, .bool sg, .bool si, .string D, .int .i64 ex])]) [] := by
  unfold code
  simp only [Tryz.f102, Option.getD_some]
  obtain ⟨d, rfl⟩ : ∃ d, D = bs d := ⟨_, Bt D⟩
  rw [Bz] at hp
  rw [Bd]
  have hgl := gText_len (c := cl) (s := sg) (q := si) hp.1 hp.2
  all_goals repeat' (first
 | ((with_reducible first | (refine ZA ?_; intro X hX) | (show awp _ _ _ _ (Kp _ _) _) | refine ZD ?_ | refine ZE ?_ | refine ZF ?_ | ((show Bg _ _ _ _ _); simp only [hall]) | (refine ZR ?_ ?_ <;> intro hb <;> (try simp only [hb]) <;> have hq := hb <;> try simp only [HQ] at hq)) <;> try simp only [Go.AM.SS, Nat.reduceAdd, Nat.reduceMul, Nat.reduceSub, ↓reduceIte, Nat.reduceEqDiff, Nat.reduceLT, Nat.reduceLeDiff, reduceCtorEq, Int.reduceBEq, Int.reduceBNe, Nat.reduceBEq, Int.reduceEq, Int.reduceToNat, Int.reduceLE, Int.reduceLT, Nat.reduceDiv, Int.reduceAdd, Int.reduceSub, Int.reduceMul, Int.reduceNeg, Int.reduceGT, Int.reduceGE, Nat.reduceMod, k102_110, s110.eq_1, s110_eq, k102_171, s171.eq_1, s171_eq, ty_3, ty_4, ty_5, ty_9, ty_42, bs_lit, bs_app, Bz, bs_beq, Bi, Bd, Be, bt_bs, List.length_append, List.append_nil, List.nil_append, List.cons_append])
 | with_reducible first
 | (refine hX _ _ ?_; clear hX X)
 | (refine ZG ?_; try clear hall all)
 | (refine hK _ _ ?_; clear hK K)
 | refine ZL ?_
 | (refine v_0 _ _ ?_; try clear v_0 V_0)
 | (refine v_1 _ _ ?_; try clear v_1 V_1)
 | ((first | refine qr 10 [2] ?_ | refine Zh (a := .seq (.region 3 _ _) _) [] ?_ | refine Zh (a := .seq (.region 1 _ _) _) [1] ?_ | refine qr 0 [1] ?_); intro V_0 v_0)
 | ((first | refine qr 5 [2] ?_ | refine qr 7 [2] ?_ | refine qr 9 [2] ?_ | refine qr 8 [1,56] ?_ | refine qr 6 [1,19,41] ?_ | refine qr 4 [1,19,20] ?_ | refine qr 3 [1,19] ?_ | refine qr 2 [2] ?_ | refine qr 1 [1,17] ?_); intro V_1 v_1)
 | (refine ZM ?_; intro K hK)
 | (refine ZN ?_; intro all hall K hK)
 | (refine ZQ ?_ ?_)
 | (refine Zg ?_; simp only [↓reduceIte, Nat.reduceEqDiff])
 | refine ZS ?_ | refine ZT ?_ | refine ZU ?_ | refine ZV ?_ | refine ZW ?_ | refine ZX ?_ | refine Ze ?_ | refine Zf ?_)
  all_goals try clear v_1 V_1
  all_goals try clear v_0 V_0
  all_goals (try simp only [inR])
  all_goals (try omega)
  all_goals (try (have := List.length_pos_iff.2 (by assumption : ¬ d = []); omega))
  all_goals (have hc : decide (((gText cl sg si d ex).length : Int) ≤ 4000) = decide ((gText cl sg si d ex).length ≤ 4000) := decide_eq_decide.2 (by omega))
  all_goals first
    | (have hdg : dgOk d = true := by
         first
           | (rw [show d = [] by assumption]; rfl)
           | exact dg_c (by assumption) (by assumption))
    | (have hdg : dgOk d = false := by
         first
           | exact dg_b (by assumption) (by assumption)
           | exact dg_a (by assumption) (by assumption))
    | skip
  all_goals (try rw [hc])
  all_goals (clear hc; unfold gGood; rw [hdg]; simp_all)
  all_goals first
    | omega
    | rfl
theorem sound_102 : Sound Tryz.prog 102 .body (norm s102) := by
  refine sb Tryz.func102 rfl (by kernel_rfl) G102_ok (by kernel_rfl) fun ds p r hs hp => ?_
  unfold s102 at hs
  split at hs
  · cases hs; exact ⟨Nat.le_of_ble_eq_true (by kernel_rfl), wk102 _ _ _ _ _ hp⟩
  · cases hs
end Go.Proofs.AMT
