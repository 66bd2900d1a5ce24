/- Part 9 of the proof: own text. -/
import Derived.Test.YthdbkmpkebdliaaGreatDoorK8
set_option linter.all false
set_option maxHeartbeats 20000000
set_option maxRecDepth 20000
namespace Go.Proofs.AMT
open Go.AM Go.AM.LN
attribute [local congr] bindO_congr bindS_congr bindG_congr awpOps_congr aOne_congr awp_congr aCond_congr awpD_congr dOne_congr keysB_congr nOne_congr thenP_congr blockP_congr Chk_congr Brk_congr
noncomputable def s68 : Cs := fun ds => match ds with
  | [.v (.agg ⟨[.int .u64 b0, .int .u64 b1, .int .u64 b2, .int .u64 b3]⟩), .v (.int .i64 p), .v (.int .i64 n)] => some (((0 ≤ b0 ∧ b0 < 18446744073709551616) ∧ (0 ≤ b1 ∧ b1 < 18446744073709551616) ∧ (0 ≤ b2 ∧ b2 < 18446744073709551616) ∧ (0 ≤ b3 ∧ b3 < 18446744073709551616)) ∧ (0 ≤ p ∧ p ≤ 256) ∧ 0 ≤ n ∧ n ≤ 256, .one (.fresh .u64 (limbs ((V4 b0 b1 b2 b3) / 2 ^ p.toNat % 2 ^ n.toNat))))
  | _ => none
theorem s68_eq (b0 b1 b2 b3 : Int) (p : Int) (n : Int) : norm s68 [.v (.agg #[.int .u64 b0, .int .u64 b1, .int .u64 b2, .int .u64 b3]), .v (.int .i64 p), .v (.int .i64 n)] = s68 [.v (.agg #[.int .u64 b0, .int .u64 b1, .int .u64 b2, .int .u64 b3]), .v (.int .i64 p), .v (.int .i64 n)] := rfl
noncomputable def G68 : Gam := [(39, .body, norm s39), (69, .body, norm s69), (86, .body, norm s86)]
theorem G68_ok : Gk Tryz.prog G68 := Gc sound_39 (Gc sound_69 (Gc sound_86 Gn))
theorem k68_39 : lk G68 39 = some (.body, norm s39) := rfl
theorem k68_69 : lk G68 69 = some (.body, norm s69) := rfl
theorem k68_86 : lk G68 86 = some (.body, norm s86) := rfl
theorem wk68 (b0 b1 b2 b3 : Int) (p : Int) (n : Int) (hp : ((0 ≤ b0 ∧ b0 < 18446744073709551616) ∧ (0 ≤ b1 ∧ b1 < 18446744073709551616) ∧ (0 ≤ b2 ∧ b2 < 18446744073709551616) ∧ (0 ≤ b3 ∧ b3 < 18446744073709551616)) ∧ (0 ≤ p ∧ p ≤ 256) ∧ 0 ≤ n ∧ n ≤ 256) : awp ty G68 (code Tryz.f68) (retP ty Tryz.f68.results.toList (.one (.fresh .u64 (limbs ((V4 b0 b1 b2 b3) / 2 ^ p.toNat % 2 ^ n.toNat))))) (entry 0 [.v (.agg #[.int .u64 b0, .int .u64 b1, .int .u64 b2, .int .u64 b3]), .v (.int .i64 p), .v (.int .i64 n)]) [] := by
  unfold code
  simp only [Tryz.f68, Option.getD_some]
  have hV : val [b0, b1, b2, b3] = (V4 b0 b1 b2 b3) := rfl
  have l4 := lim4 hp.1.1 hp.1.2.1 hp.1.2.2.1 hp.1.2.2.2
  have vl : (V4 b0 b1 b2 b3) < 2 ^ 256 := V4_lt hp.1.1 hp.1.2.1 hp.1.2.2.1 hp.1.2.2.2
  all_goals repeat' (first
 | ((with_reducible first | (refine ZA ?_; intro X hX) | (show awp _ _ _ _ (Kp _ _) _) | refine ZD ?_ | refine ZE ?_ | refine ZF ?_ | ((show Bg _ _ _ _ _); simp only [hall]) | (refine ZR ?_ ?_ <;> intro hb <;> (try simp only [hb]) <;> have hq := hb <;> try simp only [HQ] at hq)) <;> try simp only [Go.AM.SS, Nat.reduceAdd, Nat.reduceMul, Nat.reduceSub, ↓reduceIte, Nat.reduceEqDiff, Nat.reduceLT, Nat.reduceLeDiff, reduceCtorEq, Int.reduceBEq, Int.reduceBNe, Nat.reduceBEq, Int.reduceEq, Int.reduceToNat, Int.reduceLE, Int.reduceLT, Nat.reduceDiv, Int.reduceAdd, Int.reduceSub, Int.reduceMul, Int.reduceNeg, Int.reduceGT, Int.reduceGE, Nat.reduceMod, k68_39, s39.eq_1, s39_eq, s39_nil1, k68_69, s69.eq_1, s69_eq, s69_nil1, k68_86, s86.eq_1, s86_eq, s86_nil1, s86_nil2, s86_nil3, ty_3, ty_22, ty_24, ty_50, hV, Vl, toInts])
 | with_reducible first
 | (refine hX _ _ ?_; clear hX X)
 | (refine ZG ?_; try clear hall all)
 | (refine hK _ _ ?_; clear hK K)
 | refine ZL ?_
 | (refine v_0 _ _ ?_; try clear v_0 V_0)
 | ((first | refine qr 3 [6] ?_ | refine qr 2 [2,7,9] ?_ | refine qr 1 [2,7] ?_ | refine qr 0 [1,2,3] ?_); intro V_0 v_0)
 | (refine ZM ?_; intro K hK)
 | (refine ZN ?_; intro all hall K hK)
 | (refine ZQ ?_ ?_)
 | refine ZT ?_ | refine ZU ?_ | refine ZW ?_)
  all_goals try clear v_0 V_0
  all_goals (have x4 := len4 (Nat.lt_of_le_of_lt (Nat.div_le_self (V4 b0 b1 b2 b3) (2 ^ p.toNat)) vl))
  all_goals generalize (V4 b0 b1 b2 b3) / 2 ^ p.toNat = X at *
  all_goals (have y4 := Nat.le_trans (len_mono (Nat.div_le_self X (2 ^ n.toNat))) x4)
  all_goals (obtain ⟨ms, md⟩ := @mod_sub X (2 ^ n.toNat))
  all_goals (have z4 := Nat.le_trans (len_mono ms) x4)
  · exact ⟨l4, by omega, by omega⟩
  · exact ⟨⟨Ml _, by omega⟩, by omega, by omega⟩
  · exact ⟨⟨Ml _, by omega⟩, by omega, by omega⟩
  · exact ⟨⟨⟨Ml _, by omega⟩, Ml _, by omega⟩, ms⟩
  · rw [md]
theorem sound_68 : Sound Tryz.prog 68 .body (norm s68) := by
  refine sb Tryz.func68 rfl (by kernel_rfl) G68_ok (by kernel_rfl) fun ds p r hs hp => ?_
  unfold s68 at hs
  split at hs
  · cases hs; exact ⟨Nat.le_of_ble_eq_true (by kernel_rfl), wk68 _ _ _ _ _ _ hp⟩
  · cases hs
noncomputable def s89 : Cs := fun ds => match ds with
  | [.v (.agg ⟨[.int .i64 i0, .string i1, .int .i64 i2, .int .i64 i3, .int .i64 i4, .int .i64 i5, .int .i64 i6, .int .i64 i7, .int .i64 i8, .bool i9]⟩), .v (.agg ⟨[.int .i64 cl, .bool sg, .bool si, .int .i64 ex, .int .u64 c0, .int .u64 c1, .int .u64 c2, .int .u64 c3]⟩)] => some (((0 ≤ c0 ∧ c0 < 18446744073709551616) ∧ (0 ≤ c1 ∧ c1 < 18446744073709551616) ∧ (0 ≤ c2 ∧ c2 < 18446744073709551616) ∧ (0 ≤ c3 ∧ c3 < 18446744073709551616)) ∧ ((cl = 1 ∧ si = false ∧ i6 ≤ ex ∧ ex ≤ i7 ∧ ((blen (V4 c0 c1 c2 c3) : Int) = i4 ∨ ((blen (V4 c0 c1 c2 c3) : Int) < i4 ∧ ex = i6))) ∨ (cl = 2 ∧ si = false ∧ blen (V4 c0 c1 c2 c3) = 0 ∧ ex = 0) ∨ (cl = 3 ∧ ex = 0 ∧ (blen (V4 c0 c1 c2 c3) : Int) ≤ i8 ∧ (blen (V4 c0 c1 c2 c3) ≠ 0 ∨ si = false))), .one (.v (.bool true)))
  | _ => none
theorem s89_eq (i0 : Int) (i1 : ByteArray) (i2 : Int) (i3 : Int) (i4 : Int) (i5 : Int) (i6 : Int) (i7 : Int) (i8 : Int) (i9 : Bool) (cl : Int) (sg : Bool) (si : Bool) (ex : Int) (c0 : Int) (c1 : Int) (c2 : Int) (c3 : Int) : norm s89 [.v (.agg #[.int .i64 i0, .string i1, .int .i64 i2, .int .i64 i3, .int .i64 i4, .int .i64 i5, .int .i64 i6, .int .i64 i7, .int .i64 i8, .bool i9]), .v (.agg #[.int .i64 cl, .bool sg, .bool si, .int .i64 ex, .int .u64 c0, .int .u64 c1, .int .u64 c2, .int .u64 c3])] = s89 [.v (.agg #[.int .i64 i0, .string i1, .int .i64 i2, .int .i64 i3, .int .i64 i4, .int .i64 i5, .int .i64 i6, .int .i64 i7, .int .i64 i8, .bool i9]), .v (.agg #[.int .i64 cl, .bool sg, .bool si, .int .i64 ex, .int .u64 c0, .int .u64 c1, .int .u64 c2, .int .u64 c3])] := rfl
noncomputable def G89 : Gam := [(47, .body, norm s47)]
theorem G89_ok : Gk Tryz.prog G89 := Gc sound_47 Gn
theorem k89_47 : lk G89 47 = some (.body, norm s47) := rfl
theorem wk89 (i0 : Int) (i1 : ByteArray) (i2 : Int) (i3 : Int) (i4 : Int) (i5 : Int) (i6 : Int) (i7 : Int) (i8 : Int) (i9 : Bool) (cl : Int) (sg : Bool) (si : Bool) (ex : Int) (c0 : Int) (c1 : Int) (c2 : Int) (c3 : Int) (hp : ((0 ≤ c0 ∧ c0 < 18446744073709551616) ∧ (0 ≤ c1 ∧ c1 < 18446744073709551616) ∧ (0 ≤ c2 ∧ c2 < 18446744073709551616) ∧ (0 ≤ c3 ∧ c3 < 18446744073709551616)) ∧ ((cl = 1 ∧ si = false ∧ i6 ≤ ex ∧ ex ≤ i7 ∧ ((blen (V4 c0 c1 c2 c3) : Int) = i4 ∨ ((blen (V4 c0 c1 c2 c3) : Int) < i4 ∧ ex = i6))) ∨ (cl = 2 ∧ si = false ∧ blen (V4 c0 c1 c2 c3) = 0 ∧ ex = 0) ∨ (cl = 3 ∧ ex = 0 ∧ (blen (V4 c0 c1 c2 c3) : Int) ≤ i8 ∧ (blen (V4 c0 c1 c2 c3) ≠ 0 ∨ si = false)))) : awp ty G89 (code Tryz.f89) (retP ty Tryz.f89.results.toList (.one (.v (.bool true)))) (entry 0 [.v (.agg #[.int .i64 i0, .string i1, .int .i64 i2, .int .i64 i3, .int .i64 i4, .int .i64 i5, .int .i64 i6, .int .i64 i7, .int .i64 i8, .bool i9]), .v (.agg #[.int .i64 cl, .bool sg, .bool si, .int .i64 ex, .int .u64 c0, .int .u64 c1, .int .u64 c2, .int .u64 c3])]) [] := by
  unfold code
  simp only [Tryz.f89, Option.getD_some]
  have hc := hp.1
  have hV : val [c0, c1, c2, c3] = (V4 c0 c1 c2 c3) := rfl
  rcases hp.2 with ⟨rfl, rfl, h1, h2, h3 | ⟨h3, h4⟩⟩ | ⟨rfl, rfl, h1, rfl⟩ | ⟨rfl, rfl, h1, h2 | rfl⟩
  all_goals clear hp
  all_goals first
    | (have g1 : decide (ex ≥ i6) = true := by simp only [decide_eq_true_eq]; omega)
    | (have g1 : decide (ex ≥ i6) = false := by simp only [decide_eq_false_iff_not]; omega)
    | (have g1 : decide ((4 : Int) ≥ 5) = false := rfl)
  all_goals first
    | (have g2 : decide (ex ≤ i7) = true := by simp only [decide_eq_true_eq]; omega)
    | (have g2 : decide (ex ≤ i7) = false := by simp only [decide_eq_false_iff_not]; omega)
    | (have g2 : decide ((4 : Int) ≥ 5) = false := rfl)
  all_goals first
    | (have g3 : ((blen (V4 c0 c1 c2 c3) : Int) == i4) = true := by simp only [beq_iff_eq]; omega)
    | (have g3 : ((blen (V4 c0 c1 c2 c3) : Int) == i4) = false := by simp only [beq_eq_false_iff_ne, ne_eq]; omega)
    | (have g3 : decide ((4 : Int) ≥ 5) = false := rfl)
  all_goals first
    | (have g4 : decide ((blen (V4 c0 c1 c2 c3) : Int) ≤ i4) = true := by simp only [decide_eq_true_eq]; omega)
    | (have g4 : decide ((blen (V4 c0 c1 c2 c3) : Int) ≤ i4) = false := by simp only [decide_eq_false_iff_not]; omega)
    | (have g4 : decide ((4 : Int) ≥ 5) = false := rfl)
  all_goals first
    | (have g5 : (ex == i6) = true := by simp only [beq_iff_eq]; omega)
    | (have g5 : (ex == i6) = false := by simp only [beq_eq_false_iff_ne, ne_eq]; omega)
    | (have g5 : decide ((4 : Int) ≥ 5) = false := rfl)
  all_goals first
    | (have g6 : decide ((blen (V4 c0 c1 c2 c3) : Int) ≤ i8) = true := by simp only [decide_eq_true_eq]; omega)
    | (have g6 : decide ((blen (V4 c0 c1 c2 c3) : Int) ≤ i8) = false := by simp only [decide_eq_false_iff_not]; omega)
    | (have g6 : decide ((4 : Int) ≥ 5) = false := rfl)
  all_goals first
    | (have g7 : ((blen (V4 c0 c1 c2 c3) : Int) == 0) = true := by simp only [beq_iff_eq]; omega)
    | (have g7 : ((blen (V4 c0 c1 c2 c3) : Int) == 0) = false := by simp only [beq_eq_false_iff_ne, ne_eq]; omega)
    | (have g7 : decide ((4 : Int) ≥ 5) = false := rfl)
  all_goals first
    | (have g8 : decide ((blen (V4 c0 c1 c2 c3) : Int) > 0) = true := by simp only [decide_eq_true_eq]; omega)
    | (have g8 : decide ((blen (V4 c0 c1 c2 c3) : Int) > 0) = false := by simp only [decide_eq_false_iff_not]; omega)
    | (have g8 : decide ((4 : Int) ≥ 5) = false := rfl)
  all_goals repeat' (first
 | ((with_reducible first | (refine ZA ?_; intro X hX) | (show awp _ _ _ _ (Kp _ _) _) | refine ZD ?_ | refine ZE ?_ | refine ZF ?_ | ((show Bg _ _ _ _ _); simp only [hall]) | (refine ZR ?_ ?_ <;> intro hb <;> (try simp only [hb]) <;> have hq := hb <;> try simp only [HQ] at hq)) <;> try simp only [Go.AM.SS, Nat.reduceAdd, Nat.reduceMul, Nat.reduceSub, ↓reduceIte, Nat.reduceEqDiff, Nat.reduceLT, Nat.reduceLeDiff, reduceCtorEq, Int.reduceBEq, Int.reduceBNe, Nat.reduceBEq, Int.reduceEq, Int.reduceToNat, Int.reduceLE, Int.reduceLT, Nat.reduceDiv, Int.reduceAdd, Int.reduceSub, Int.reduceMul, Int.reduceNeg, Int.reduceGT, Int.reduceGE, Nat.reduceMod, k89_47, s47.eq_1, s47_eq, s47_nil1, ty_3, ty_4, ty_9, ty_22, ty_24, ty_33, ty_50, ty_62, hV, g1, g2, g3, g4, g5, g6, g7, g8, toInts])
 | with_reducible first
 | (refine hX _ _ ?_; clear hX X)
 | (refine ZG ?_; try clear hall all)
 | (refine hK _ _ ?_; clear hK K)
 | refine ZL ?_
 | (refine v_0 _ _ ?_; try clear v_0 V_0)
 | (refine v_1 _ _ ?_; try clear v_1 V_1)
 | ((first | refine qr 9 [4] ?_ | refine Zh (a := .seq (.region 2 _ _) _) [] ?_ | refine qr 1 [2,3,5] ?_ | refine qr 0 [2,3] ?_); intro V_0 v_0)
 | ((first | refine qr 4 [4] ?_ | refine qr 6 [4] ?_ | refine qr 8 [4] ?_ | refine qr 7 [2,3,5,63] ?_ | refine qr 5 [2,3,5,10,49] ?_ | refine qr 3 [2,3,5,10,11] ?_ | refine qr 2 [2,3,5,10] ?_); intro V_1 v_1)
 | (refine ZM ?_; intro K hK)
 | (refine ZN ?_; intro all hall K hK)
 | (refine ZQ ?_ ?_)
 | (refine Zg ?_; simp only [↓reduceIte, Nat.reduceEqDiff])
 | refine ZS ?_ | refine ZT ?_ | refine ZU ?_ | refine ZV ?_ | refine ZW ?_ | refine ZX ?_ | refine Ze ?_ | refine Zf ?_)
  all_goals try clear v_1 V_1
  all_goals try clear v_0 V_0
  all_goals first
    | omega
    | exact lim4 hc.1 hc.2.1 hc.2.2.1 hc.2.2.2
    | skip
theorem sound_89 : Sound Tryz.prog 89 .body (norm s89) := by
  refine sb Tryz.func89 rfl (by kernel_rfl) G89_ok (by kernel_rfl) fun ds p r hs hp => ?_
  unfold s89 at hs
  split at hs
  · cases hs; exact ⟨Nat.le_of_ble_eq_true (by kernel_rfl), wk89 _ _ _ _ _ _ _ _ _ _ _ _ _ _ _ _ _ _ hp⟩
  · cases hs
noncomputable def s48 : Cs := fun ds => match ds with
  | [.sl .u64 a] => some (True, .one (.v (.agg #[.int .u64 (a.getD 0 0), .int .u64 (a.getD 1 0), .int .u64 (a.getD 2 0), .int .u64 (a.getD 3 0)])))
  | _ => none
theorem s48_eq (a : List Int) : norm s48 [.sl .u64 a] = s48 [.sl .u64 a] := rfl
theorem s48_nil1  : norm s48 [.v (.slice none 0 0)] = s48 [.sl .u64 []] := rfl
noncomputable def G48 : Gam := [(109, .body, norm s109)]
theorem G48_ok : Gk Tryz.prog G48 := Gc sound_109 Gn
theorem k48_109 : lk G48 109 = some (.body, norm s109) := rfl
theorem wk48 (a : List Int) (hp : True) : awp ty G48 (code Tryz.f48) (retP ty Tryz.f48.results.toList (.one (.v (.agg #[.int .u64 (a.getD 0 0), .int .u64 (a.getD 1 0), .int .u64 (a.getD 2 0), .int .u64 (a.getD 3 0)])))) (entry 0 [.sl .u64 a]) [] := by
  unfold code
  simp only [Tryz.f48, Option.getD_some]
  all_goals repeat' (first
 | ((with_reducible first | (refine ZA ?_; intro X hX) | (show awp _ _ _ _ (Kp _ _) _) | refine ZD ?_ | refine ZE ?_ | refine ZF ?_ | ((show Bg _ _ _ _ _); simp only [hall]) | (refine ZR ?_ ?_ <;> intro hb <;> (try simp only [hb]) <;> have hq := hb <;> try simp only [HQ] at hq)) <;> try simp only [Go.AM.SS, Nat.reduceAdd, Nat.reduceMul, Nat.reduceSub, ↓reduceIte, Nat.reduceEqDiff, Nat.reduceLT, Nat.reduceLeDiff, reduceCtorEq, Int.reduceBEq, Int.reduceBNe, Nat.reduceBEq, Int.reduceEq, Int.reduceToNat, Int.reduceLE, Int.reduceLT, Nat.reduceDiv, Int.reduceAdd, Int.reduceSub, Int.reduceMul, Int.reduceNeg, Int.reduceGT, Int.reduceGE, Nat.reduceMod, k48_109, s109.eq_1, s109_eq, s109_nil1, ty_3, ty_22, ty_24, ty_50])
 | with_reducible first
 | (refine hX _ _ ?_; clear hX X)
 | (refine ZG ?_; try clear hall all)
 | (refine hK _ _ ?_; clear hK K)
 | refine ZL ?_
 | (refine v_0 _ _ ?_; try clear v_0 V_0)
 | (refine v_1 _ _ ?_; try clear v_1 V_1)
 | (refine v_2 _ _ ?_; try clear v_2 V_2)
    | (with_reducible refine awp_unroll (Nat.succ (Nat.succ (Nat.succ (Nat.succ (Nat.succ Nat.zero))))) ?_)
 | ((first | refine qr 7 [2] ?_ | refine Zh (a := .seq (.region 2 _ _) _) [2,3] ?_ | refine qr 1 [0,2,3] ?_ | refine qr 0 [0,2] ?_); intro V_0 v_0)
 | ((first | refine qb 1 [0,2,3,5] ?_ | refine Zh (a := .cond (.tmp 6) _ _) [0,2,3,5] ?_ | refine qr 3 [0,2,3,5,6] ?_ | refine qr 2 [0,2,3,5] ?_); intro V_1 v_1)
 | ((first | refine qr 4 [0,2,3,4,5] ?_); intro V_2 v_2)
 | (refine ZM ?_; intro K hK)
 | (refine ZN ?_; intro all hall K hK)
 | (refine ZQ ?_ ?_)
 | (refine Zg ?_; simp only [↓reduceIte, Nat.reduceEqDiff])
 | refine ZS ?_ | refine ZT ?_ | refine ZU ?_ | refine ZV ?_ | refine ZW ?_ | refine ZX ?_ | refine ZY ?_ | refine ZZ ?_ | refine Za ?_ | refine Zb ?_ | refine Zc ?_ | refine Zd ?_ | refine Ze ?_ | refine Zf ?_)
  all_goals try clear v_2 V_2
  all_goals try clear v_1 V_1
  all_goals try clear v_0 V_0
  all_goals (try simp only [inR])
  all_goals first
    | omega
    | rfl
    | skip
theorem sound_48 : Sound Tryz.prog 48 .body (norm s48) := by
  refine sb Tryz.func48 rfl (by kernel_rfl) G48_ok (by kernel_rfl) fun ds p r hs hp => ?_
  unfold s48 at hs
  split at hs
  · cases hs; exact ⟨Nat.le_of_ble_eq_true (by kernel_rfl), wk48 _ hp⟩
  · cases hs
noncomputable def s60 : Cs := fun ds => match ds with
  | [.sl .u64 a, .sl .u64 b] => some ((lim a ∧ a.length ≤ 50000000) ∧ lim b ∧ b.length ≤ 50000000, .one (.fresh .u64 (limbs (val a + val b))))
  | _ => none
theorem s60_eq (a : List Int) (b : List Int) : norm s60 [.sl .u64 a, .sl .u64 b] = s60 [.sl .u64 a, .sl .u64 b] := rfl
theorem s60_nil1  (b : List Int) : norm s60 [.v (.slice none 0 0), .sl .u64 b] = s60 [.sl .u64 [], .sl .u64 b] := rfl
theorem s60_nil2 (a : List Int)  : norm s60 [.sl .u64 a, .v (.slice none 0 0)] = s60 [.sl .u64 a, .sl .u64 []] := rfl
theorem s60_nil3   : norm s60 [.v (.slice none 0 0), .v (.slice none 0 0)] = s60 [.sl .u64 [], .sl .u64 []] := rfl
noncomputable def G60 : Gam := [(105, .body, norm s105), (107, .ext, sAdd64), (109, .body, norm s109)]
theorem G60_ok : Gk Tryz.prog G60 := Gc sound_105 (Gc ext_107 (Gc sound_109 Gn))
theorem k60_105 : lk G60 105 = some (.body, norm s105) := rfl
theorem k60_107 : lk G60 107 = some (.ext, sAdd64) := rfl
theorem k60_109 : lk G60 109 = some (.body, norm s109) := rfl
theorem wk60 (a : List Int) (b : List Int) (hp : (lim a ∧ a.length ≤ 50000000) ∧ lim b ∧ b.length ≤ 50000000) : awp ty G60 (code Tryz.f60) (retP ty Tryz.f60.results.toList (.one (.fresh .u64 (limbs (val a + val b))))) (entry 0 [.sl .u64 a, .sl .u64 b]) [] := by
  unfold code
  simp only [Tryz.f60, Option.getD_some]
  obtain ⟨N, hN⟩ : ∃ N, max a.length b.length + 1 = N := ⟨_, rfl⟩
  have mE : max (a.length : Int) (b.length : Int) + 1 = (N : Int) := by omega
  have mT : ((N : Int)).toNat = N := Int.toNat_natCast N
  all_goals repeat' (first
 | ((with_reducible first | (refine ZA ?_; intro X hX) | (show awp _ _ _ _ (Kp _ _) _) | refine ZD ?_ | refine ZE ?_ | refine ZF ?_ | ((show Bg _ _ _ _ _); simp only [hall]) | (refine ZR ?_ ?_ <;> intro hb <;> (try simp only [hb]) <;> have hq := hb <;> try simp only [HQ] at hq)) <;> try simp only [Go.AM.SS, Nat.reduceAdd, Nat.reduceMul, Nat.reduceSub, ↓reduceIte, Nat.reduceEqDiff, Nat.reduceLT, Nat.reduceLeDiff, reduceCtorEq, Int.reduceBEq, Int.reduceBNe, Nat.reduceBEq, Int.reduceEq, Int.reduceToNat, Int.reduceLE, Int.reduceLT, Nat.reduceDiv, Int.reduceAdd, Int.reduceSub, Int.reduceMul, Int.reduceNeg, Int.reduceGT, Int.reduceGE, Nat.reduceMod, k60_105, s105.eq_1, s105_eq, s105_nil1, k60_107, sAdd64_eq, k60_109, s109.eq_1, s109_eq, s109_nil1, ty_3, ty_22, ty_50, mE, mT, List.length_replicate])
 | with_reducible first
 | (refine hX _ _ ?_; clear hX X)
 | (refine ZG ?_; try clear hall all)
 | (refine hK _ _ ?_; clear hK K)
 | refine ZL ?_
 | (refine v_0 _ _ ?_; try clear v_0 V_0)
 | (refine v_1 _ _ ?_; try clear v_1 V_1)
 | (refine v_2 _ _ ?_; try clear v_2 V_2)
    | (with_reducible refine awp_lp (σ := Nat × Nat × List Int) (fun s => (s.1 ≤ N ∧ s.2.1 ≤ 1 ∧ s.2.2.length = N) ∧ lim s.2.2 ∧ val (s.2.2.take s.1) + s.2.1 * 2 ^ (64 * s.1) = val (a.take s.1) + val (b.take s.1)) (fun s => [(0, .rd .u64 a), (1, .rd .u64 b), (5, .ow 224), (6, .v (.int .u64 s.2.1)), (16, .v (.int .i64 N)), (17, .v (.int .i64 s.1))]) (fun s => [(224, .ints .u64 s.2.2, false)]) (fun s => N - s.1) (0, 0, List.replicate N 0) ?_ ?_ (fun s hs => ?_))
 | ((first | refine qr 8 [4] ?_ | refine Zh (a := .seq (.region 3 _ _) _) [5] ?_ | refine qr 2 [0,1,5,6] ?_ | refine qr 1 [0,1,5] ?_ | refine qr 0 [0,1] ?_); intro V_0 v_0)
 | ((first | refine qb 1 [0,1,5,6,16,17] ?_ | refine Zh (a := .cond (.tmp 18) _ _) [0,1,5,6,16,17] ?_ | refine qr 4 [0,1,5,6,16,17,18] ?_ | refine qr 3 [0,1,5,6,16,17] ?_); intro V_1 v_1)
 | ((first | refine qr 5 [0,1,5,6,7,16,17] ?_); intro V_2 v_2)
 | (refine ZM ?_; intro K hK)
 | (refine ZN ?_; intro all hall K hK)
 | (refine ZQ ?_ ?_)
 | (refine Zg ?_; simp only [↓reduceIte, Nat.reduceEqDiff])
 | refine ZS ?_ | refine ZT ?_ | refine ZU ?_ | refine ZV ?_ | refine ZW ?_ | refine ZX ?_ | refine ZY ?_ | refine ZZ ?_ | refine Za ?_ | refine Ze ?_ | refine Zf ?_)
  all_goals try clear v_2 V_2
  all_goals try clear v_1 V_1
  all_goals try clear v_0 V_0
  all_goals clear mE mT
  all_goals (try (rcases s with ⟨i, c, o⟩))
  all_goals (try (obtain ⟨ss, hs⟩ := hs))
  all_goals (try dsimp only at *)
  all_goals (try simp only [inR])
  all_goals (try omega)
  · exact ⟨⟨Nat.zero_le _, by omega, by simp⟩, lim_rep _, by simp [val]⟩
  · exact Ent.refl _ _
  · have h1 := Mg hp.1.1 (i := i)
    have h2 := Mg hp.2.1 (i := i)
    omega
  · obtain ⟨c', s', e1, e2, e3, e4, e5⟩ := add_step' hp.1.1 hp.2.1 (show c ≤ 1 by omega) (show i < o.length by omega) hs.2
    rw [e1, e2]
    exact ⟨(i + 1, c', o.set i (s' : Int)), (by (refine Eo [(224, 224)] rfl ?_ ?_ <;> simp only [Me, Sl, AvLe, lk, ↓reduceIte, Nat.reduceEqDiff, Option.isSome_some, and_self, and_true, true_and, reduceCtorEq, List.map_nil, List.map_cons, Option.some.injEq, AV.v.injEq, Value.int.injEq, Value.bool.injEq, AV.rd.injEq, AV.ow.injEq, AV.al.injEq, AV.ref.injEq] <;> omega)), ⟨⟨by dsimp only; omega, e3, by simp; omega⟩, lim_set hs.1 (nat_lim e4) _, e5⟩, by dsimp only; omega⟩
  · exact ⟨hs.1, by omega⟩
  · have hi : i = N := by omega
    subst hi
    rw [add_fin hp.1.1 hp.2.1 (by omega) (by omega) (by omega) hs.2]
theorem sound_60 : Sound Tryz.prog 60 .body (norm s60) := by
  refine sb Tryz.func60 rfl (by kernel_rfl) G60_ok (by kernel_rfl) fun ds p r hs hp => ?_
  unfold s60 at hs
  split at hs
  · cases hs; exact ⟨Nat.le_of_ble_eq_true (by kernel_rfl), wk60 _ _ hp⟩
  · cases hs
noncomputable def s90 : Cs := fun ds => match ds with
  | [.v (.agg ⟨[.int .u64 b0, .int .u64 b1, .int .u64 b2, .int .u64 b3]⟩), .sl .u64 a, .v (.int .i64 p)] => some (((0 ≤ b0 ∧ b0 < 18446744073709551616) ∧ (0 ≤ b1 ∧ b1 < 18446744073709551616) ∧ (0 ≤ b2 ∧ b2 < 18446744073709551616) ∧ (0 ≤ b3 ∧ b3 < 18446744073709551616)) ∧ (lim a ∧ a.length ≤ 1000) ∧ 0 ≤ p ∧ p ≤ 100000, .one (.v (.agg #[.int .u64 (w4 ((V4 b0 b1 b2 b3) + val a * 2 ^ p.toNat) 0), .int .u64 (w4 ((V4 b0 b1 b2 b3) + val a * 2 ^ p.toNat) 1), .int .u64 (w4 ((V4 b0 b1 b2 b3) + val a * 2 ^ p.toNat) 2), .int .u64 (w4 ((V4 b0 b1 b2 b3) + val a * 2 ^ p.toNat) 3)])))
  | _ => none
theorem s90_eq (b0 b1 b2 b3 : Int) (a : List Int) (p : Int) : norm s90 [.v (.agg #[.int .u64 b0, .int .u64 b1, .int .u64 b2, .int .u64 b3]), .sl .u64 a, .v (.int .i64 p)] = s90 [.v (.agg #[.int .u64 b0, .int .u64 b1, .int .u64 b2, .int .u64 b3]), .sl .u64 a, .v (.int .i64 p)] := rfl
theorem s90_nil1 (b0 b1 b2 b3 : Int)  (p : Int) : norm s90 [.v (.agg #[.int .u64 b0, .int .u64 b1, .int .u64 b2, .int .u64 b3]), .v (.slice none 0 0), .v (.int .i64 p)] = s90 [.v (.agg #[.int .u64 b0, .int .u64 b1, .int .u64 b2, .int .u64 b3]), .sl .u64 [], .v (.int .i64 p)] := rfl
noncomputable def G90 : Gam := [(39, .body, norm s39), (48, .body, norm s48), (60, .body, norm s60)]
theorem G90_ok : Gk Tryz.prog G90 := Gc sound_39 (Gc sound_48 (Gc sound_60 Gn))
theorem k90_39 : lk G90 39 = some (.body, norm s39) := rfl
theorem k90_48 : lk G90 48 = some (.body, norm s48) := rfl
theorem k90_60 : lk G90 60 = some (.body, norm s60) := rfl
theorem wk90 (b0 b1 b2 b3 : Int) (a : List Int) (p : Int) (hp : ((0 ≤ b0 ∧ b0 < 18446744073709551616) ∧ (0 ≤ b1 ∧ b1 < 18446744073709551616) ∧ (0 ≤ b2 ∧ b2 < 18446744073709551616) ∧ (0 ≤ b3 ∧ b3 < 18446744073709551616)) ∧ (lim a ∧ a.length ≤ 1000) ∧ 0 ≤ p ∧ p ≤ 100000) : awp ty G90 (code Tryz.f90) (retP ty Tryz.f90.results.toList (.one (.v (.agg #[.int .u64 (w4 ((V4 b0 b1 b2 b3) + val a * 2 ^ p.toNat) 0), .int .u64 (w4 ((V4 b0 b1 b2 b3) + val a * 2 ^ p.toNat) 1), .int .u64 (w4 ((V4 b0 b1 b2 b3) + val a * 2 ^ p.toNat) 2), .int .u64 (w4 ((V4 b0 b1 b2 b3) + val a * 2 ^ p.toNat) 3)])))) (entry 0 [.v (.agg #[.int .u64 b0, .int .u64 b1, .int .u64 b2, .int .u64 b3]), .sl .u64 a, .v (.int .i64 p)]) [] := by
  unfold code
  simp only [Tryz.f90, Option.getD_some]
  have hV : val [b0, b1, b2, b3] = (V4 b0 b1 b2 b3) := rfl
  have l4 := lim4 hp.1.1 hp.1.2.1 hp.1.2.2.1 hp.1.2.2.2
  all_goals repeat' (first
 | ((with_reducible first | (refine ZA ?_; intro X hX) | (refine ZB ?_; intro X hX) | (show awp _ _ _ _ (Kp _ _) _) | (refine hX _ _ _ _ ?_; clear hX X) | (refine ZC ?_; intro X hX) | refine ZD ?_ | refine ZE ?_ | refine ZF ?_ | ((show Bg _ _ _ _ _); simp only [hall]) | (refine ZR ?_ ?_ <;> intro hb <;> (try simp only [hb]) <;> have hq := hb <;> try simp only [HQ] at hq)) <;> try simp only [Go.AM.SS, Nat.reduceAdd, Nat.reduceMul, Nat.reduceSub, ↓reduceIte, Nat.reduceEqDiff, Nat.reduceLT, Nat.reduceLeDiff, reduceCtorEq, Int.reduceBEq, Int.reduceBNe, Nat.reduceBEq, Int.reduceEq, Int.reduceToNat, Int.reduceLE, Int.reduceLT, Nat.reduceDiv, Int.reduceAdd, Int.reduceSub, Int.reduceMul, Int.reduceNeg, Int.reduceGT, Int.reduceGE, Nat.reduceMod, k90_39, s39.eq_1, s39_eq, s39_nil1, k90_48, s48.eq_1, s48_eq, s48_nil1, k90_60, s60.eq_1, s60_eq, s60_nil1, s60_nil2, s60_nil3, ty_3, ty_22, ty_24, ty_50, hV, Vl, limbs_getD, toInts])
 | with_reducible first
 | (refine hX _ _ ?_; clear hX X)
 | (refine ZI ?_; try clear hall all)
 | (refine ZJ ?_; kernel_rfl)
 | ((show clashK _ _ _ = true); kernel_rfl)
 | (refine ZG ?_; try clear hall all)
 | (refine ZH ?_; try clear hall all)
 | (refine hK _ _ ?_; clear hK K)
 | refine ZL ?_
 | (refine v_0 _ _ ?_; try clear v_0 V_0)
 | ((first | refine qr 1 [6] ?_ | refine qr 0 [1,2,3,6] ?_); intro V_0 v_0)
 | (refine ZM ?_; intro K hK)
 | (refine ZN ?_; intro all hall K hK)
 | (refine Da (id := 1) ?_ ?_; kernel_rfl; intro all hall K hK)
 | (refine ZO ?_ ?_; kernel_rfl; intro all hall K hK)
 | (refine ZQ ?_ ?_)
 | (refine ZK ?_; kernel_rfl)
 | refine ZT ?_ | refine ZU ?_ | refine ZW ?_)
  all_goals try clear v_0 V_0
  · exact ⟨⟨hp.2.1.1, by omega⟩, by omega, by omega⟩
  · exact ⟨l4, Ml _, by have := len_valpow hp.2.1.1 p.toNat; omega⟩
theorem sound_90 : Sound Tryz.prog 90 .body (norm s90) := by
  refine sb Tryz.func90 rfl (by kernel_rfl) G90_ok (by kernel_rfl) fun ds p r hs hp => ?_
  unfold s90 at hs
  split at hs
  · cases hs; exact ⟨Nat.le_of_ble_eq_true (by kernel_rfl), wk90 _ _ _ _ _ _ hp⟩
  · cases hs
noncomputable def s30 : Cs := fun ds => match ds with
  | [.v (.int .i64 n), .v (.agg ⟨[.int .i64 cl, .bool sg, .bool si, .int .i64 ex, .int .u64 c0, .int .u64 c1, .int .u64 c2, .int .u64 c3]⟩)] => some ((1 ≤ n ∧ n ≤ 6) ∧ ((0 ≤ c0 ∧ c0 < 18446744073709551616) ∧ (0 ≤ c1 ∧ c1 < 18446744073709551616) ∧ (0 ≤ c2 ∧ c2 < 18446744073709551616) ∧ (0 ≤ c3 ∧ c3 < 18446744073709551616)) ∧ isD n cl si (V4 c0 c1 c2 c3) ex, .many [.v (.agg #[.int .u64 (w4 (packS n cl sg si (V4 c0 c1 c2 c3) ex) 0), .int .u64 (w4 (packS n cl sg si (V4 c0 c1 c2 c3) ex) 1), .int .u64 (w4 (packS n cl sg si (V4 c0 c1 c2 c3) ex) 2), .int .u64 (w4 (packS n cl sg si (V4 c0 c1 c2 c3) ex) 3)]), .v (.int .i64 0)])
  | _ => none
theorem s30_eq (n : Int) (cl : Int) (sg : Bool) (si : Bool) (ex : Int) (c0 : Int) (c1 : Int) (c2 : Int) (c3 : Int) : norm s30 [.v (.int .i64 n), .v (.agg #[.int .i64 cl, .bool sg, .bool si, .int .i64 ex, .int .u64 c0, .int .u64 c1, .int .u64 c2, .int .u64 c3])] = s30 [.v (.int .i64 n), .v (.agg #[.int .i64 cl, .bool sg, .bool si, .int .i64 ex, .int .u64 c0, .int .u64 c1, .int .u64 c2, .int .u64 c3])] := rfl
noncomputable def G30 : Gam := [(44, .body, norm s44), (46, .body, norm s46), (47, .body, norm s47), (68, .body, norm s68), (89, .body, norm s89), (90, .body, norm s90)]
theorem G30_ok : Gk Tryz.prog G30 := Gc sound_44 (Gc sound_46 (Gc sound_47 (Gc sound_68 (Gc sound_89 (Gc sound_90 Gn)))))
theorem k30_44 : lk G30 44 = some (.body, norm s44) := rfl
theorem k30_46 : lk G30 46 = some (.body, norm s46) := rfl
theorem k30_47 : lk G30 47 = some (.body, norm s47) := rfl
theorem k30_68 : lk G30 68 = some (.body, norm s68) := rfl
theorem k30_89 : lk G30 89 = some (.body, norm s89) := rfl
theorem k30_90 : lk G30 90 = some (.body, norm s90) := rfl
theorem wk30 (n : Int) (cl : Int) (sg : Bool) (si : Bool) (ex : Int) (c0 : Int) (c1 : Int) (c2 : Int) (c3 : Int) (hp : (1 ≤ n ∧ n ≤ 6) ∧ ((0 ≤ c0 ∧ c0 < 18446744073709551616) ∧ (0 ≤ c1 ∧ c1 < 18446744073709551616) ∧ (0 ≤ c2 ∧ c2 < 18446744073709551616) ∧ (0 ≤ c3 ∧ c3 < 18446744073709551616)) ∧ isD n cl si (V4 c0 c1 c2 c3) ex) : awp ty G30 (code Tryz.f30) (retP ty Tryz.f30.results.toList (.many [.v (.agg #[.int .u64 (w4 (packS n cl sg si (V4 c0 c1 c2 c3) ex) 0), .int .u64 (w4 (packS n cl sg si (V4 c0 c1 c2 c3) ex) 1), .int .u64 (w4 (packS n cl sg si (V4 c0 c1 c2 c3) ex) 2), .int .u64 (w4 (packS n cl sg si (V4 c0 c1 c2 c3) ex) 3)]), .v (.int .i64 0)])) (entry 0 [.v (.int .i64 n), .v (.agg #[.int .i64 cl, .bool sg, .bool si, .int .i64 ex, .int .u64 c0, .int .u64 c1, .int .u64 c2, .int .u64 c3])]) [] := by
  unfold code
  simp only [Tryz.f30, Option.getD_some]
  obtain ⟨hn, hc, hd⟩ := hp
  obtain ⟨F1, F2, F3, F4, F5, F6, F7, F8, F9, F10, F11⟩ := bfmt hn
  have hV : val [c0, c1, c2, c3] = (V4 c0 c1 c2 c3) := rfl
  have l4 := lim4 hc.1 hc.2.1 hc.2.2.1 hc.2.2.2
  have hI := infoV_in (n := n) (by omega)
  have gk : (decide (n ≥ 1) && decide (n ≤ 6)) = true := by rw [decide_eq_true (by omega : n ≥ 1), decide_eq_true (by omega : n ≤ 6)]; rfl
  have hcv : fx n % 18446744073709551616 = fx n := by omega
  have hmin : min (fx n).toNat 64 = (fx n).toNat := by omega
  have hee : (2 : Int) ^ (fx n).toNat = ((2 ^ (fx n).toNat : Nat) : Int) := by simp
  have hE16 : 2 ^ (fx n).toNat ≤ 2 ^ 15 := Nat.pow_le_pow_right (by omega) (by omega)
  have hEp := Nat.two_pow_pos (fx n).toNat
  have p15 : (2 : Nat) ^ 15 = 32768 := rfl
  have hall : (1 * (2 : Int) ^ (fx n).toNat % 18446744073709551616 - 1) % 18446744073709551616 = ((2 ^ (fx n).toNat - 1 : Nat) : Int) := by rw [hee]; omega
  have eP : fp n - 1 - 1 = fp n - 2 := by omega
  have hlt := packS_lt (sg := sg) hn hd
  rcases Bool.eq_false_or_eq_true sg with gs | gs
  case' inl =>
    obtain ⟨S, hS'⟩ : ∃ S : Nat, (if sg then 2 ^ (fp n - 1 + fx n).toNat else 0) = S := ⟨_, rfl⟩
    have hS : V4 0 0 0 0 + 2 ^ (fp n - 1 + fx n).toNat = S := by rw [V4_x, Int.toNat_zero, Nat.zero_add, ← hS', if_pos gs]
  case' inr =>
    obtain ⟨S, hS'⟩ : ∃ S : Nat, (if sg then 2 ^ (fp n - 1 + fx n).toNat else 0) = S := ⟨_, rfl⟩
    have hS : V4 0 0 0 0 = S := by rw [V4_x, Int.toNat_zero, ← hS', if_neg (by rw [gs]; exact Bool.false_ne_true)]
  all_goals rcases hd with ⟨rfl, rfl, h1, h2, h3 | ⟨h3, h4⟩⟩ | ⟨rfl, rfl, h1, rfl⟩ | ⟨rfl, rfl, h1, h2⟩
  all_goals obtain ⟨Z, hZ⟩ : ∃ Z, 2 ^ (fp n - 1).toNat = Z := ⟨_, rfl⟩
  all_goals obtain ⟨E1, hE1⟩ : ∃ E1 : Nat, 2 ^ (fx n).toNat - 1 = E1 := ⟨_, rfl⟩
  all_goals obtain ⟨XX, hXX⟩ : ∃ XX, (V4 c0 c1 c2 c3) % Z = XX := ⟨_, rfl⟩
  all_goals rw [hE1] at hall
  all_goals have hE64 : E1 < 18446744073709551616 := by omega
  all_goals first
    | (have hT := packS_c1n (sg := sg) hn (.inl ⟨rfl, rfl, h1, h2, .inl h3⟩) h3
       rw [hT, hZ, hXX, hS'] at hlt ⊢
       obtain ⟨Ee, hEe⟩ : ∃ Ee, (ex - (2 - fe n - fp n) + 1).toNat = Ee := ⟨_, rfl⟩
       rw [hEe] at hlt ⊢
       rw [show XX + Ee * Z + S = S + XX + Ee * Z by omega] at hlt ⊢
       have gL : decide ((blen (V4 c0 c1 c2 c3) : Int) < fp n) = false := by simp only [decide_eq_false_iff_not]; omega
       have hex : (ex - (2 - fe n - fp n) + 1) % 18446744073709551616 = (Ee : Int) := by omega
       have hS4 := V4_w4 (n := S) (by omega)
       have hB1 := V4_w4 (n := S + XX) (by omega)
       have hB2 : decide ((4 : Int) ≥ 5) = false := rfl)
    | (have hT := packS_c1d (sg := sg) hn (.inl ⟨rfl, rfl, h1, h2, .inr ⟨h3, h4⟩⟩) h3
       rw [hT, hS'] at hlt ⊢
       rw [Nat.add_comm _ S] at hlt ⊢
       have gL : decide ((blen (V4 c0 c1 c2 c3) : Int) < fp n) = true := by simp only [decide_eq_true_eq]; omega
       have hex : decide ((4 : Int) ≥ 5) = false := rfl
       have hS4 := V4_w4 (n := S) (by omega)
       have hB1 : decide ((4 : Int) ≥ 5) = false := rfl
       have hB2 : decide ((4 : Int) ≥ 5) = false := rfl)
    | (have hT := packS_c2 (sg := sg) hn (.inr (.inl ⟨rfl, rfl, h1, rfl⟩))
       rw [hT, hZ, hE1, hS'] at hlt ⊢
       rw [Nat.add_comm _ S] at hlt ⊢
       have gL : decide ((4 : Int) ≥ 5) = false := rfl
       have hex : decide ((4 : Int) ≥ 5) = false := rfl
       have hS4 := V4_w4 (n := S) (by omega)
       have hB1 : decide ((4 : Int) ≥ 5) = false := rfl
       have hB2 : decide ((4 : Int) ≥ 5) = false := rfl)
    | (have hT := (packS_c3 (sg := sg) hn (.inr (.inr ⟨rfl, rfl, h1, h2⟩))).1
       rw [hT, hZ, hE1, hS'] at hlt ⊢
       have gL : decide ((4 : Int) ≥ 5) = false := rfl
       have hex : decide ((4 : Int) ≥ 5) = false := rfl
       have hS4 := V4_w4 (n := S) (by omega)
       have hB1 := V4_w4 (n := S + E1 * Z) (by omega)
       have hB2 := V4_w4 (n := S + E1 * Z + (V4 c0 c1 c2 c3)) (by omega))
  all_goals repeat' (first
 | ((with_reducible first | (refine ZA ?_; intro X hX) | (refine ZB ?_; intro X hX) | (show awp _ _ _ _ (Kp _ _) _) | (refine hX _ _ _ _ ?_; clear hX X) | (refine ZC ?_; intro X hX) | refine ZD ?_ | refine ZE ?_ | refine ZF ?_ | ((show Bg _ _ _ _ _); simp only [hall]) | (refine ZR ?_ ?_ <;> intro hb <;> (try simp only [hb]) <;> have hq := hb <;> try simp only [HQ] at hq)) <;> try simp only [Go.AM.SS, Nat.reduceAdd, Nat.reduceMul, Nat.reduceSub, ↓reduceIte, Nat.reduceEqDiff, Nat.reduceLT, Nat.reduceLeDiff, reduceCtorEq, Int.reduceBEq, Int.reduceBNe, Nat.reduceBEq, Int.reduceEq, Int.reduceToNat, Int.reduceLE, Int.reduceLT, Nat.reduceDiv, Int.reduceAdd, Int.reduceSub, Int.reduceMul, Int.reduceNeg, Int.reduceGT, Int.reduceGE, Nat.reduceMod, k30_44, s44.eq_1, s44_eq, k30_46, s46.eq_1, s46_eq, k30_47, s47.eq_1, s47_eq, s47_nil1, k30_68, s68.eq_1, s68_eq, k30_89, s89.eq_1, s89_eq, k30_90, s90.eq_1, s90_eq, s90_nil1, ty_3, ty_4, ty_9, ty_22, ty_24, ty_33, ty_50, ty_62, ty_75, hV, hI, gk, infoT, toInts, sz_one, Vl, hcv, hmin, hall, IntKind.bits, gs, hS, hS4, gL, hex, hB1, hB2, hZ, hXX, Nat.pow_zero, Nat.mul_one, Nat.div_one, Int.toNat_one, eP, Nat.one_mul])
 | with_reducible first
 | (refine hX _ _ ?_; clear hX X)
 | (refine ZI ?_; try clear hall all)
 | (refine ZJ ?_; kernel_rfl)
 | ((show clashK _ _ _ = true); kernel_rfl)
 | (refine ZG ?_; try clear hall all)
 | (refine ZH ?_; try clear hall all)
 | (refine hK _ _ ?_; clear hK K)
 | refine ZL ?_
 | (refine v_0 _ _ ?_; try clear v_0 V_0)
 | (refine v_1 _ _ ?_; try clear v_1 V_1)
 | (refine v_2 _ _ ?_; try clear v_2 V_2)
 | ((first | refine qr 22 [4,5] ?_ | refine qr 21 [3,4,6,8,9] ?_ | refine Zh (a := .seq (.region 19 _ _) _) [3,4,6,8,9] ?_ | refine Zh (a := .seq (.region 11 _ _) _) [3,4,6,8,9] ?_ | refine qr 10 [3,4,6,8,9,10] ?_ | refine Zh (a := .seq (.region 8 _ _) _) [3,4,6,8,9] ?_ | refine qr 7 [3,4,6,8,9] ?_ | refine qr 6 [3,4,6,8] ?_ | refine Zh (a := .seq (.region 4 _ _) _) [3,4,6] ?_ | refine qr 3 [3,4,6] ?_ | refine Zh (a := .seq (.region 1 _ _) _) [0,3,4] ?_ | refine qr 0 [0,3,4] ?_); intro V_0 v_0)
 | ((first | refine qr 20 [4,5] ?_ | refine qr 19 [3,4,6,8,9,74] ?_ | refine qr 13 [4,5] ?_ | refine qr 18 [4,5] ?_ | refine Zh (a := .seq (.region 16 _ _) _) [4,9] ?_ | refine qr 15 [3,4,8,9] ?_ | refine qr 14 [3,4,6,8,9,10,51] ?_ | refine qr 12 [3,4,6,8,9,10,44,45] ?_ | refine qr 11 [3,4,6,8,9,10,44] ?_ | refine qr 8 [3,4,6,8,9,29] ?_ | refine qr 5 [4,5] ?_ | refine qr 4 [3,4,6,23] ?_ | refine qr 2 [4,5] ?_ | refine qr 1 [0,3,4,13] ?_); intro V_1 v_1)
 | ((first | refine qr 16 [4,8,9,62] ?_); intro V_2 v_2)
 | (refine ZM ?_; intro K hK)
 | (refine ZN ?_; intro all hall K hK)
 | (refine Da (id := 15) ?_ ?_; kernel_rfl; intro all hall K hK)
 | (refine Da (id := 20) ?_ ?_; kernel_rfl; intro all hall K hK)
 | (refine Da (id := 21) ?_ ?_; kernel_rfl; intro all hall K hK)
 | (refine ZO ?_ ?_; kernel_rfl; intro all hall K hK)
 | (refine ZQ ?_ ?_)
 | (refine ZK ?_; kernel_rfl)
 | (refine Zg ?_; simp only [↓reduceIte, Nat.reduceEqDiff])
 | refine ZS ?_ | refine ZT ?_ | refine ZU ?_ | refine ZV ?_ | refine ZW ?_ | refine ZX ?_ | refine Ze ?_ | refine Zf ?_)
  all_goals try clear v_2 V_2
  all_goals try clear v_1 V_1
  all_goals try clear v_0 V_0
  all_goals clear hB1 hB2 hS4 hI gk hall
  all_goals (try simp only [inR])
  all_goals (have X4 : (limbs XX).length ≤ 4 := len4 (Nat.lt_of_le_of_lt (by rw [← hXX]; exact Nat.mod_le _ _) (V4_lt hc.1 hc.2.1 hc.2.2.1 hc.2.2.2)))
  all_goals first
    | omega
    | exact l4
    | exact ⟨hc, .inl ⟨h1, h2, .inl h3⟩⟩
    | exact ⟨hc, .inl ⟨h1, h2, .inr ⟨h3, h4⟩⟩⟩
    | exact ⟨hc, .inr (.inl h1)⟩
    | exact ⟨hc, .inr (.inr ⟨h1, h2⟩)⟩
    | exact ⟨lim_one ⟨by omega, by omega⟩, by omega, by omega⟩
    | exact ⟨hc, by omega, by omega⟩
    | exact ⟨hc, l4⟩
    | exact ⟨⟨Wl _ _, Wl _ _, Wl _ _, Wl _ _⟩, l4⟩
    | exact ⟨⟨Wl _ _, Wl _ _, Wl _ _, Wl _ _⟩, lim_one ⟨by omega, by omega⟩, by omega, by omega⟩
    | exact ⟨⟨Wl _ _, Wl _ _, Wl _ _, Wl _ _⟩, Ml _, by omega⟩
    | exact ⟨Ml _, by omega⟩
    | exact ⟨l4, by omega⟩
    | (rw [if_pos hq, show (V4 c0 c1 c2 c3) + 2 ^ (fp n - 2).toNat + E1 * Z + S = S + E1 * Z + (V4 c0 c1 c2 c3) + 2 ^ (fp n - 2).toNat by omega]; done)
    | (rw [if_neg (by rw [hq]; exact Bool.noConfusion), show (V4 c0 c1 c2 c3) + 0 + E1 * Z + S = S + E1 * Z + (V4 c0 c1 c2 c3) by omega]; done)
    | skip
theorem sound_30 : Sound Tryz.prog 30 .body (norm s30) := by
  refine sb Tryz.func30 rfl (by kernel_rfl) G30_ok (by kernel_rfl) fun ds p r hs hp => ?_
  unfold s30 at hs
  split at hs
  · cases hs; exact ⟨Nat.le_of_ble_eq_true (by kernel_rfl), wk30 _ _ _ _ _ _ _ _ _ hp⟩
  · cases hs
noncomputable def s37 : Cs := fun ds => match ds with
  | [.v (.int .i64 d)] => some (True, .one (.v (.bool (decide (d ≥ 0) && decide (d ≤ 4)))))
  | _ => none
theorem s37_eq (d : Int) : norm s37 [.v (.int .i64 d)] = s37 [.v (.int .i64 d)] := rfl
noncomputable def G37 : Gam := []
theorem G37_ok : Gk Tryz.prog G37 := Gn
theorem wk37 (d : Int) (hp : True) : awp ty G37 (code Tryz.f37) (retP ty Tryz.f37.results.toList (.one (.v (.bool (decide (d ≥ 0) && decide (d ≤ 4)))))) (entry 0 [.v (.int .i64 d)]) [] := by
  unfold code
  simp only [Tryz.f37, Option.getD_some]
  all_goals repeat' (first
 | ((with_reducible first | (refine ZA ?_; intro X hX) | (show awp _ _ _ _ (Kp _ _) _) | refine ZD ?_ | refine ZE ?_ | refine ZF ?_ | ((show Bg _ _ _ _ _); simp only [hall]) | (refine ZR ?_ ?_ <;> intro hb <;> (try simp only [hb]) <;> have hq := hb <;> try simp only [HQ] at hq)) <;> try simp only [Go.AM.SS, Nat.reduceAdd, Nat.reduceMul, Nat.reduceSub, ↓reduceIte, Nat.reduceEqDiff, Nat.reduceLT, Nat.reduceLeDiff, reduceCtorEq, Int.reduceBEq, Int.reduceBNe, Nat.reduceBEq, Int.reduceEq, Int.reduceToNat, Int.reduceLE, Int.reduceLT, Nat.reduceDiv, Int.reduceAdd, Int.reduceSub, Int.reduceMul, Int.reduceNeg, Int.reduceGT, Int.reduceGE, Nat.reduceMod, ty_3])
 | with_reducible first
 | (refine hX _ _ ?_; clear hX X)
 | (refine ZG ?_; try clear hall all)
 | (refine hK _ _ ?_; clear hK K)
 | refine ZL ?_
 | (refine v_0 _ _ ?_; try clear v_0 V_0)
 | ((first | refine qr 1 [2] ?_ | refine qr 0 [0] ?_); intro V_0 v_0)
 | (refine ZM ?_; intro K hK)
 | (refine ZN ?_; intro all hall K hK)
 | (refine ZQ ?_ ?_)
 | refine ZT ?_ | refine ZU ?_ | refine ZW ?_)
  all_goals try clear v_0 V_0
  all_goals (first | rfl | (simp [hb]; done) | skip)
theorem sound_37 : Sound Tryz.prog 37 .body (norm s37) := by
  refine sb Tryz.func37 rfl (by kernel_rfl) G37_ok (by kernel_rfl) fun ds p r hs hp => ?_
  unfold s37 at hs
  split at hs
  · cases hs; exact ⟨Nat.le_of_ble_eq_true (by kernel_rfl), wk37 _ hp⟩
  · cases hs
noncomputable def s40 : Cs := fun ds => match ds with
  | [.sl .u64 a, .sl .u64 b] => some ((lim a ∧ a.length ≤ 40000000) ∧ lim b ∧ b.length ≤ 40000000, .one (.fresh .u64 (limbs (val a * val b))))
  | _ => none
theorem s40_eq (a : List Int) (b : List Int) : norm s40 [.sl .u64 a, .sl .u64 b] = s40 [.sl .u64 a, .sl .u64 b] := rfl
theorem s40_nil1  (b : List Int) : norm s40 [.v (.slice none 0 0), .sl .u64 b] = s40 [.sl .u64 [], .sl .u64 b] := rfl
theorem s40_nil2 (a : List Int)  : norm s40 [.sl .u64 a, .v (.slice none 0 0)] = s40 [.sl .u64 a, .sl .u64 []] := rfl
theorem s40_nil3   : norm s40 [.v (.slice none 0 0), .v (.slice none 0 0)] = s40 [.sl .u64 [], .sl .u64 []] := rfl
noncomputable def G40 : Gam := [(105, .body, norm s105), (106, .body, norm s106), (107, .ext, sAdd64)]
theorem G40_ok : Gk Tryz.prog G40 := Gc sound_105 (Gc sound_106 (Gc ext_107 Gn))
theorem k40_105 : lk G40 105 = some (.body, norm s105) := rfl
theorem k40_106 : lk G40 106 = some (.body, norm s106) := rfl
theorem k40_107 : lk G40 107 = some (.ext, sAdd64) := rfl
theorem wk40 (a : List Int) (b : List Int) (hp : (lim a ∧ a.length ≤ 40000000) ∧ lim b ∧ b.length ≤ 40000000) : awp ty G40 (code Tryz.f40) (retP ty Tryz.f40.results.toList (.one (.fresh .u64 (limbs (val a * val b))))) (entry 0 [.sl .u64 a, .sl .u64 b]) [] := by
  unfold code
  simp only [Tryz.f40, Option.getD_some]
  obtain ⟨N, hN⟩ : ∃ N, a.length + b.length + 1 = N := ⟨_, rfl⟩
  have lenE : ((a.length : Int) + (b.length : Int) + 1).toNat = N := by omega
  all_goals repeat' (first
 | ((with_reducible first | (refine ZA ?_; intro X hX) | (refine ZB ?_; intro X hX) | (show awp _ _ _ _ (Kp _ _) _) | refine ZD ?_ | refine ZE ?_ | refine ZF ?_ | ((show Bg _ _ _ _ _); simp only [hall]) | (refine ZR ?_ ?_ <;> intro hb <;> (try simp only [hb]) <;> have hq := hb <;> try simp only [HQ] at hq)) <;> try simp only [Go.AM.SS, Nat.reduceAdd, Nat.reduceMul, Nat.reduceSub, ↓reduceIte, Nat.reduceEqDiff, Nat.reduceLT, Nat.reduceLeDiff, reduceCtorEq, Int.reduceBEq, Int.reduceBNe, Nat.reduceBEq, Int.reduceEq, Int.reduceToNat, Int.reduceLE, Int.reduceLT, Nat.reduceDiv, Int.reduceAdd, Int.reduceSub, Int.reduceMul, Int.reduceNeg, Int.reduceGT, Int.reduceGE, Nat.reduceMod, k40_105, s105.eq_1, s105_eq, s105_nil1, k40_106, s106.eq_1, s106_eq, k40_107, sAdd64_eq, ty_3, ty_22, ty_50, List.length_replicate, lenE])
 | with_reducible first
 | (refine hX _ _ ?_; clear hX X)
 | (refine ZG ?_; try clear hall all)
 | (refine ZH ?_; try clear hall all)
 | (refine hK _ _ ?_; clear hK K)
 | refine ZL ?_
 | (refine v_0 _ _ ?_; try clear v_0 V_0)
 | (refine v_1 _ _ ?_; try clear v_1 V_1)
 | (refine v_2 _ _ ?_; try clear v_2 V_2)
 | (refine v_3 _ _ ?_; try clear v_3 V_3)
 | (refine v_4 _ _ ?_; try clear v_4 V_4)
    | (with_reducible refine awp_lp (c := .seq (.region 3 _ _) _) (σ := Nat × List Int) (fun s => (s.1 ≤ a.length ∧ s.2.length = N) ∧ lim s.2 ∧ val s.2 = val (a.take s.1) * val b) (fun s => [(0, .rd .u64 a), (1, .rd .u64 b), (5, .ow 304), (21, .v (.int .i64 a.length)), (22, .v (.int .i64 s.1))]) (fun s => [(304, .ints .u64 s.2, false)]) (fun s => a.length - s.1) (0, List.replicate N 0) ?_ ?_ (fun s hs => ?_))
    | (with_reducible refine awp_lp (c := .seq (.region 7 _ _) _) (σ := Nat × Nat × List Int) (fun z => (z.1 ≤ b.length ∧ z.2.1 < 18446744073709551616 ∧ z.2.2.length = N) ∧ lim z.2.2 ∧ z.2.2.getD (s.1 + b.length) 0 = 0 ∧ val z.2.2 + z.2.1 * 2 ^ (64 * (s.1 + z.1)) = val (a.take s.1) * val b + (a.getD s.1 0).toNat * 2 ^ (64 * s.1) * val (b.take z.1)) (fun z => [(0, .rd .u64 a), (1, .rd .u64 b), (5, .ow 304), (6, .v (.int .i64 s.1)), (7, .v (.int .u64 z.2.1)), (21, .v (.int .i64 a.length)), (22, .v (.int .i64 s.1)), (26, .v (.int .i64 b.length)), (27, .v (.int .i64 z.1))]) (fun z => [(304, .ints .u64 z.2.2, false)]) (fun z => b.length - z.1) (0, 0, s.2) ?_ ?_ (fun z hz => ?_))
 | ((first | refine qr 18 [4] ?_ | refine Zh (a := .seq (.region 2 _ _) _) [5] ?_ | refine qr 1 [0,1,5] ?_ | refine qr 0 [0,1] ?_); intro V_0 v_0)
 | ((first | refine qb 1 [0,1,5,21,22] ?_ | refine Zh (a := .cond (.tmp 23) _ _) [0,1,5,21,22] ?_ | refine qr 3 [0,1,5,21,22,23] ?_ | refine qr 2 [0,1,5,21,22] ?_); intro V_1 v_1)
 | ((first | refine Zh (a := .seq (.region 6 _ _) _) [0,1,5,6,7,21,22] ?_ | refine qr 5 [0,1,5,6,7,21,22] ?_ | refine qr 4 [0,1,5,6,21,22] ?_); intro V_2 v_2)
 | ((first | refine qb 3 [0,1,5,6,7,21,22,26,27] ?_ | refine Zh (a := .cond (.tmp 28) _ _) [0,1,5,6,7,21,22,26,27] ?_ | refine qr 7 [0,1,5,6,7,21,22,26,27,28] ?_ | refine qr 6 [0,1,5,6,7,21,22,26,27] ?_); intro V_3 v_3)
 | ((first | refine qr 13 [0,1,5,6,8,9,11,21,22,26,27] ?_ | refine qr 12 [0,1,5,6,8,9,11,12,21,22,26,27] ?_ | refine qr 11 [0,1,5,6,7,8,9,11,21,22,26,27] ?_ | refine qr 10 [0,1,5,6,7,8,9,11,12,21,22,26,27] ?_ | refine qr 9 [0,1,5,6,7,8,9,10,21,22,26,27] ?_ | refine qr 8 [0,1,5,6,7,8,21,22,26,27] ?_); intro V_4 v_4)
 | (refine ZM ?_; intro K hK)
 | (refine ZN ?_; intro all hall K hK)
 | (refine ZO ?_ ?_; kernel_rfl; intro all hall K hK)
 | (refine ZQ ?_ ?_)
 | (refine ZK ?_; kernel_rfl)
 | (refine Zg ?_; simp only [↓reduceIte, Nat.reduceEqDiff])
 | refine ZS ?_ | refine ZT ?_ | refine ZU ?_ | refine ZV ?_ | refine ZW ?_ | refine ZX ?_ | refine ZY ?_ | refine ZZ ?_ | refine Za ?_ | refine Ze ?_ | refine Zf ?_)
  all_goals try clear v_4 V_4
  all_goals try clear v_3 V_3
  all_goals try clear v_2 V_2
  all_goals try clear v_1 V_1
  all_goals try clear v_0 V_0
  all_goals clear lenE
  all_goals (try simp only [inR])
  all_goals (try (rcases z with ⟨k, c, o2⟩))
  all_goals (try (rcases s with ⟨i, o⟩))
  all_goals (try (obtain ⟨zz, hz⟩ := hz))
  all_goals (try (obtain ⟨ss, hs⟩ := hs))
  all_goals (try dsimp only at *)
  all_goals (try omega)
  · exact ⟨⟨Nat.zero_le _, by simp⟩, lim_rep _, by simp [val_rep, val]⟩
  · exact Ent.refl _ _
  · exact ⟨⟨Nat.zero_le _, by omega, by omega⟩, hs.1, getD_zero_of_lt hs.1 (by rw [hs.2]; exact prod_lt hp.1.1 hp.2.1 i), by rw [hs.2]; simp [val]⟩
  · exact Ent.refl _ _
  · exact ⟨Mg hp.1.1, Mg hp.2.1⟩
  · have e : ((i : Int) + (k : Int)).toNat = i + k := by omega
    have h1 := Mg hz.1 (i := i + k)
    rw [e]
    omega
  · have e : ((i : Int) + (k : Int)).toNat = i + k := by omega
    have h1 := Mg hz.1 (i := i + k)
    rw [e]
    have h2 := Mg hp.1.1 (i := i)
    have h3 := Mg hp.2.1 (i := k)
    obtain ⟨c', s', e1, e2, e3, e4, e5⟩ := mul_word' (prod_le (x := (a.getD i 0).toNat) (y := (b.getD k 0).toNat) (by omega) (by omega)) (c := (c : Int)) ⟨by omega, by omega⟩ h1
    rw [e1, e2]
    rw [Int.toNat_natCast] at e3
    exact ⟨(k + 1, c', o2.set (i + k) (s' : Int)), (by (refine Eo [(304, 304)] rfl ?_ ?_ <;> simp only [Me, Sl, AvLe, lk, ↓reduceIte, Nat.reduceEqDiff, Option.isSome_some, and_self, and_true, true_and, reduceCtorEq, List.map_nil, List.map_cons, Option.some.injEq, AV.v.injEq, Value.int.injEq, Value.bool.injEq, AV.rd.injEq, AV.ow.injEq, AV.al.injEq, AV.ref.injEq] <;> omega)), ⟨⟨by dsimp only; omega, e4, by simp; omega⟩, lim_set hz.1 (nat_lim e5) _, by rw [getD_set_other (by omega)]; exact hz.2.1, mul_step (by omega) hz.2.2 e3⟩, by dsimp only; omega⟩
  · have e : ((i : Int) + (b.length : Int)).toNat = i + b.length := by omega
    rw [e]
    have hk : k = b.length := by omega
    have h5 := hz.2.2
    rw [hk, List.take_length] at h5
    exact ⟨(i + 1, o2.set (i + b.length) (c : Int)), (by (refine Eo [(304, 304)] rfl ?_ ?_ <;> simp only [Me, Sl, AvLe, lk, ↓reduceIte, Nat.reduceEqDiff, Option.isSome_some, and_self, and_true, true_and, reduceCtorEq, List.map_nil, List.map_cons, Option.some.injEq, AV.v.injEq, Value.int.injEq, Value.bool.injEq, AV.rd.injEq, AV.ow.injEq, AV.al.injEq, AV.ref.injEq] <;> omega)), ⟨⟨by dsimp only; omega, by simp; omega⟩, lim_set hz.1 (nat_lim (by omega)) _, mul_row (by omega) hz.2.1 h5⟩, by dsimp only; omega⟩
  · exact ⟨hs.1, by omega⟩
  · have hi : i = a.length := by omega
    rw [hs.2, hi, List.take_length]
theorem sound_40 : Sound Tryz.prog 40 .body (norm s40) := by
  refine sb Tryz.func40 rfl (by kernel_rfl) G40_ok (by kernel_rfl) fun ds p r hs hp => ?_
  unfold s40 at hs
  split at hs
  · cases hs; exact ⟨Nat.le_of_ble_eq_true (by kernel_rfl), wk40 _ _ hp⟩
  · cases hs
noncomputable def s41 : Cs := fun ds => match ds with
  | [.v (.int .u64 b), .v (.int .i64 n)] => some ((0 < b ∧ b < 18446744073709551616) ∧ 0 ≤ n ∧ n ≤ 1000000, .one (.view .u64 (limbs (b.toNat ^ n.toNat))))
  | _ => none
theorem s41_eq (b : Int) (n : Int) : norm s41 [.v (.int .u64 b), .v (.int .i64 n)] = s41 [.v (.int .u64 b), .v (.int .i64 n)] := rfl
noncomputable def G41 : Gam := [(40, .body, norm s40)]
theorem G41_ok : Gk Tryz.prog G41 := Gc sound_40 Gn
theorem k41_40 : lk G41 40 = some (.body, norm s40) := rfl
theorem wk41 (b : Int) (n : Int) (hp : (0 < b ∧ b < 18446744073709551616) ∧ 0 ≤ n ∧ n ≤ 1000000) : awp ty G41 (code Tryz.f41) (retP ty Tryz.f41.results.toList (.one (.view .u64 (limbs (b.toNat ^ n.toNat))))) (entry 0 [.v (.int .u64 b), .v (.int .i64 n)]) [] := by
  unfold code
  simp only [Tryz.f41, Option.getD_some]
  obtain ⟨B, rfl⟩ := Int.eq_ofNat_of_zero_le (show 0 ≤ b by omega)
  obtain ⟨N, rfl⟩ := Int.eq_ofNat_of_zero_le hp.2.1
  have hmr : ∀ m : Nat, (m : Int).tmod 2 = ((m % 2 : Nat) : Int) := fun m => by rw [Int.tmod_eq_emod_of_nonneg (by omega)]; omega
  have hmq : ∀ m : Nat, (m : Int).tdiv 2 = ((m / 2 : Nat) : Int) := fun m => by rw [Int.tdiv_eq_ediv_of_nonneg (by omega)]; omega
  have l1 : limbs 1 = [1] := limbs_of_lt (by omega) (by omega)
  have lb : limbs B = [(B : Int)] := limbs_of_lt (by omega) (by omega)
  have hBN : 0 < B ^ N := Nat.pow_pos (by omega)
  have hlen := pw_len (b := B) (n := N) (by omega)
  have e1 : ((B : Int)).toNat = B := Int.toNat_natCast B
  have e2 : ((N : Int)).toNat = N := Int.toNat_natCast N
  all_goals repeat' (first
 | ((with_reducible first | (refine ZA ?_; intro X hX) | (show awp _ _ _ _ (Kp _ _) _) | refine ZD ?_ | refine ZE ?_ | refine ZF ?_ | ((show Bg _ _ _ _ _); simp only [hall]) | (refine ZR ?_ ?_ <;> intro hb <;> (try simp only [hb]) <;> have hq := hb <;> try simp only [HQ] at hq)) <;> try simp only [Go.AM.SS, Nat.reduceAdd, Nat.reduceMul, Nat.reduceSub, ↓reduceIte, Nat.reduceEqDiff, Nat.reduceLT, Nat.reduceLeDiff, reduceCtorEq, Int.reduceBEq, Int.reduceBNe, Nat.reduceBEq, Int.reduceEq, Int.reduceToNat, Int.reduceLE, Int.reduceLT, Nat.reduceDiv, Int.reduceAdd, Int.reduceSub, Int.reduceMul, Int.reduceNeg, Int.reduceGT, Int.reduceGE, Nat.reduceMod, k41_40, s40.eq_1, s40_eq, s40_nil1, s40_nil2, s40_nil3, ty_3, ty_22, ty_50, toInts, hmr, hmq, Vl])
 | with_reducible first
 | (refine hX _ _ ?_; clear hX X)
 | (refine ZG ?_; try clear hall all)
 | (refine hK _ _ ?_; clear hK K)
 | refine ZL ?_
 | (refine v_0 _ _ ?_; try clear v_0 V_0)
 | (refine v_1 _ _ ?_; try clear v_1 V_1)
 | (refine v_2 _ _ ?_; try clear v_2 V_2)
    | (with_reducible refine awp_lp (c := .seq (.seq (.region 2 _ _) _) _) (σ := Nat × Nat × Nat) (fun s => s.1 ≤ N ∧ s.2.1 * s.2.2 ^ s.1 = B ^ N) (fun s => [(1, .v (.int .i64 s.1)), (5, .rd .u64 (limbs s.2.1)), (6, .rd .u64 (limbs s.2.2))]) (fun s => []) (fun s => s.1) (N, 1, B) ?_ ?_ (fun s hs => ?_))
 | ((first | refine qr 8 [4] ?_ | refine qb 0 [5] ?_ | refine qr 1 [1,5,6] ?_ | refine qr 0 [0,1] ?_); intro V_0 v_0)
 | ((first | refine qr 6 [1,5,6,21] ?_ | refine qr 5 [1,5,6] ?_ | refine Zh (a := .seq (.region 3 _ _) _) [1,5,6] ?_ | refine Zh (a := .seq (.region 2 _ _) _) [1,5,6] ?_); intro V_1 v_1)
 | ((first | refine qr 3 [1,5,6,14] ?_ | refine qr 2 [1,5,6,11] ?_); intro V_2 v_2)
 | (refine ZM ?_; intro K hK)
 | (refine ZN ?_; intro all hall K hK)
 | (refine ZQ ?_ ?_)
 | (refine Zg ?_; simp only [↓reduceIte, Nat.reduceEqDiff])
 | refine ZS ?_ | refine ZT ?_ | refine ZU ?_ | refine ZV ?_ | refine ZW ?_ | refine ZX ?_ | refine ZY ?_ | refine ZZ ?_ | refine Za ?_ | refine Ze ?_ | refine Zf ?_)
  all_goals try clear v_2 V_2
  all_goals try clear v_1 V_1
  all_goals try clear v_0 V_0
  all_goals clear hmr hmq
  all_goals (try simp only [inR])
  all_goals (try (rcases s with ⟨m, x, y⟩))
  all_goals (try dsimp only at *)
  · exact ⟨Nat.le_refl _, by rw [Nat.one_mul]⟩
  · rw [l1, lb]; (refine Eo [] rfl ?_ ?_ <;> simp only [Me, Sl, AvLe, lk, ↓reduceIte, Nat.reduceEqDiff, Option.isSome_some, List.contains_cons, List.contains_nil, Bool.or_false, Nat.reduceBEq, and_self, and_true, true_and, reduceCtorEq, List.map_nil, List.map_cons, Option.some.injEq, AV.v.injEq, Value.int.injEq, Value.bool.injEq, AV.rd.injEq, AV.ow.injEq, AV.al.injEq, AV.ref.injEq] <;> (first | omega | (refine ⟨?_, ?_, ?_⟩ <;> omega)))
  · obtain ⟨hx, hy, hx0, hy0⟩ := pw_le hs.2 hBN (by omega)
    have xl := len_mono hx
    have yl := len_mono hy
    exact ⟨⟨Ml _, by omega⟩, Ml _, by omega⟩
  · omega
  · obtain ⟨hx, hy, hx0, hy0⟩ := pw_le hs.2 hBN (by omega)
    have yl := len_mono hy
    exact ⟨Ml _, by omega⟩
  · exact ⟨(m / 2, x * y, y * y), (by (refine Eo [] rfl ?_ ?_ <;> simp only [Me, Sl, AvLe, lk, ↓reduceIte, Nat.reduceEqDiff, Option.isSome_some, List.contains_cons, List.contains_nil, Bool.or_false, Nat.reduceBEq, and_self, and_true, true_and, reduceCtorEq, List.map_nil, List.map_cons, Option.some.injEq, AV.v.injEq, Value.int.injEq, Value.bool.injEq, AV.rd.injEq, AV.ow.injEq, AV.al.injEq, AV.ref.injEq] <;> (first | omega | (refine ⟨?_, ?_, ?_⟩ <;> omega)))), ⟨by dsimp only; omega, pw_odd hs.2 (by omega)⟩, by dsimp only; omega⟩
  · refine ⟨(m / 2, x * y, y), (by (refine Eo [] rfl ?_ ?_ <;> simp only [Me, Sl, AvLe, lk, ↓reduceIte, Nat.reduceEqDiff, Option.isSome_some, List.contains_cons, List.contains_nil, Bool.or_false, Nat.reduceBEq, and_self, and_true, true_and, reduceCtorEq, List.map_nil, List.map_cons, Option.some.injEq, AV.v.injEq, Value.int.injEq, Value.bool.injEq, AV.rd.injEq, AV.ow.injEq, AV.al.injEq, AV.ref.injEq] <;> (first | omega | (refine ⟨?_, ?_, ?_⟩ <;> omega)))), ⟨by dsimp only; omega, ?_⟩, by dsimp only; omega⟩
    have h0 : m / 2 = 0 := by omega
    have h1 := pw_odd hs.2 (by omega)
    dsimp only
    rw [h0, Nat.pow_zero, Nat.mul_one] at h1 ⊢
    exact h1
  · omega
  · obtain ⟨hx, hy, hx0, hy0⟩ := pw_le hs.2 hBN (by omega)
    have yl := len_mono hy
    exact ⟨Ml _, by omega⟩
  · exact ⟨(m / 2, x, y * y), (by (refine Eo [] rfl ?_ ?_ <;> simp only [Me, Sl, AvLe, lk, ↓reduceIte, Nat.reduceEqDiff, Option.isSome_some, List.contains_cons, List.contains_nil, Bool.or_false, Nat.reduceBEq, and_self, and_true, true_and, reduceCtorEq, List.map_nil, List.map_cons, Option.some.injEq, AV.v.injEq, Value.int.injEq, Value.bool.injEq, AV.rd.injEq, AV.ow.injEq, AV.al.injEq, AV.ref.injEq] <;> (first | omega | (refine ⟨?_, ?_, ?_⟩ <;> omega)))), ⟨by dsimp only; omega, pw_even hs.2 (by omega)⟩, by dsimp only; omega⟩
  · refine ⟨(m / 2, x, y), (by (refine Eo [] rfl ?_ ?_ <;> simp only [Me, Sl, AvLe, lk, ↓reduceIte, Nat.reduceEqDiff, Option.isSome_some, List.contains_cons, List.contains_nil, Bool.or_false, Nat.reduceBEq, and_self, and_true, true_and, reduceCtorEq, List.map_nil, List.map_cons, Option.some.injEq, AV.v.injEq, Value.int.injEq, Value.bool.injEq, AV.rd.injEq, AV.ow.injEq, AV.al.injEq, AV.ref.injEq] <;> (first | omega | (refine ⟨?_, ?_, ?_⟩ <;> omega)))), ⟨by dsimp only; omega, ?_⟩, by dsimp only; omega⟩
    have h0 : m / 2 = 0 := by omega
    have h1 := pw_even hs.2 (by omega)
    dsimp only
    rw [h0, Nat.pow_zero, Nat.mul_one] at h1 ⊢
    exact h1
  · have h0 : m = 0 := by omega
    have h1 := hs.2
    rw [h0, Nat.pow_zero, Nat.mul_one] at h1
    rw [h1]
theorem sound_41 : Sound Tryz.prog 41 .body (norm s41) := by
  refine sb Tryz.func41 rfl (by kernel_rfl) G41_ok (by kernel_rfl) fun ds p r hs hp => ?_
  unfold s41 at hs
  split at hs
  · cases hs; exact ⟨Nat.le_of_ble_eq_true (by kernel_rfl), wk41 _ _ hp⟩
  · cases hs
noncomputable def s61 : Cs := fun ds => match ds with
  | [.v (.string s)] => some (s.data.toList.all isDg = true ∧ s.size ≤ 10000, .one (.view .u64 (limbs (dv s.data.toList))))
  | _ => none
theorem s61_eq (s : ByteArray) : norm s61 [.v (.string s)] = s61 [.v (.string s)] := rfl
noncomputable def G61 : Gam := [(40, .body, norm s40), (60, .body, norm s60)]
theorem G61_ok : Gk Tryz.prog G61 := Gc sound_40 (Gc sound_60 Gn)
theorem k61_40 : lk G61 40 = some (.body, norm s40) := rfl
theorem k61_60 : lk G61 60 = some (.body, norm s60) := rfl
theorem wk61 (s : ByteArray) (hp : s.data.toList.all isDg = true ∧ s.size ≤ 10000) : awp ty G61 (code Tryz.f61) (retP ty Tryz.f61.results.toList (.one (.view .u64 (limbs (dv s.data.toList))))) (entry 0 [.v (.string s)]) [] := by
  unfold code
  simp only [Tryz.f61, Option.getD_some]
  obtain ⟨l, rfl⟩ : ∃ l, s = bs l := ⟨_, Bt s⟩
  rw [Bz, Bd] at hp
  rw [Bd]
  all_goals repeat' (first
 | ((with_reducible first | (refine ZA ?_; intro X hX) | (show awp _ _ _ _ (Kp _ _) _) | refine ZD ?_ | refine ZE ?_ | refine ZF ?_ | ((show Bg _ _ _ _ _); simp only [hall]) | (refine ZR ?_ ?_ <;> intro hb <;> (try simp only [hb]) <;> have hq := hb <;> try simp only [HQ] at hq)) <;> try simp only [Go.AM.SS, Nat.reduceAdd, Nat.reduceMul, Nat.reduceSub, ↓reduceIte, Nat.reduceEqDiff, Nat.reduceLT, Nat.reduceLeDiff, reduceCtorEq, Int.reduceBEq, Int.reduceBNe, Nat.reduceBEq, Int.reduceEq, Int.reduceToNat, Int.reduceLE, Int.reduceLT, Nat.reduceDiv, Int.reduceAdd, Int.reduceSub, Int.reduceMul, Int.reduceNeg, Int.reduceGT, Int.reduceGE, Nat.reduceMod, k61_40, s40.eq_1, s40_eq, s40_nil1, s40_nil2, s40_nil3, k61_60, s60.eq_1, s60_eq, s60_nil1, s60_nil2, s60_nil3, ty_3, ty_5, ty_9, ty_22, ty_50, bs_lit, bs_app, Bz, bs_beq, Bi, Bd, Be, bt_bs, List.length_append, List.append_nil, List.nil_append, List.cons_append, toInts, Vl])
 | with_reducible first
 | (refine hX _ _ ?_; clear hX X)
 | (refine ZG ?_; try clear hall all)
 | (refine hK _ _ ?_; clear hK K)
 | refine ZL ?_
 | (refine v_0 _ _ ?_; try clear v_0 V_0)
 | (refine v_1 _ _ ?_; try clear v_1 V_1)
 | (refine v_2 _ _ ?_; try clear v_2 V_2)
 | (refine v_3 _ _ ?_; try clear v_3 V_3)
    | (with_reducible refine awp_lp (c := .seq (.seq (.region 3 _ _) _) _) (σ := Nat) (fun k => k ≤ l.length) (fun k => [(0, .v (.string (bs l))), (3, .rd .u64 (limbs (dv (l.take k)))), (4, .v (.int .i64 k))]) (fun k => []) (fun k => l.length - k) 0 ?_ ?_ (fun k hk => ?_))
    | (with_reducible refine awp_lp (c := .seq (.seq (.region 5 _ _) _) _) (σ := Nat) (fun j => k + j ≤ l.length ∧ j ≤ 18) (fun j => [(0, .v (.string (bs l))), (3, .rd .u64 (limbs (dv (l.take k)))), (4, .v (.int .i64 (k + j : Nat))), (5, .v (.int .u64 (dv ((l.drop k).take j)))), (6, .v (.int .u64 (10 ^ j : Nat)))]) (fun j => []) (fun j => 18 - j) 0 ?_ ?_ (fun j hj => ?_))
 | ((first | refine qr 10 [2] ?_ | refine Zh (a := .seq (.region 2 _ _) _) [3] ?_ | refine qr 1 [0,3] ?_ | refine qr 0 [0] ?_); intro V_0 v_0)
 | ((first | refine qb 2 [0,3,4,5,6] ?_ | refine qr 4 [0,3,4,5,6] ?_ | refine Zh (a := .seq (.region 3 _ _) _) [0,3,4] ?_ | refine qr 2 [0,3,4] ?_); intro V_1 v_1)
 | ((first | refine qb 3 [0,3,4,5,6] ?_ | refine Zh (a := .seq (.region 5 _ _) _) [0,3,4,5,6] ?_ | refine qr 3 [0,3,4,11] ?_); intro V_2 v_2)
 | ((first | refine qr 7 [0,3,4,5,6] ?_ | refine qr 5 [0,3,4,5,6,19] ?_); intro V_3 v_3)
 | (refine ZM ?_; intro K hK)
 | (refine ZN ?_; intro all hall K hK)
 | (refine ZQ ?_ ?_)
 | (refine Zg ?_; simp only [↓reduceIte, Nat.reduceEqDiff])
 | refine ZS ?_ | refine ZT ?_ | refine ZU ?_ | refine ZV ?_ | refine ZW ?_ | refine ZX ?_ | refine ZY ?_ | refine ZZ ?_ | refine Za ?_ | refine Ze ?_ | refine Zf ?_)
  all_goals try clear v_3 V_3
  all_goals try clear v_2 V_2
  all_goals try clear v_1 V_1
  all_goals try clear v_0 V_0
  all_goals (try simp only [inR])
  all_goals (try omega)
  · refine Eo [] rfl ?_ ?_ <;> (try simp [Me, Sl, AvLe, lk, dv, Ct.intsOf]) <;> rfl
  · refine Eo [] rfl ?_ ?_ <;> simp [Me, Sl, AvLe, lk, dv]
  all_goals (try (
    obtain ⟨n1, n2, n3⟩ := num_lt hp.1 hj.1 hj.2
    have hL := dv_len (drop_all hp.1 k).2
    rw [List.length_take] at hL
    have hF := num_fin hj.1
    have hV := val1 (10 ^ j) (by omega)
    have hW := val1 (dv (List.take j (List.drop k l))) (by omega)))
  · have hc := all_getD hp.1 (show k + j < l.length by omega)
    have hs := num_step (show k + j < l.length by omega)
    have h18 := j_lt hq hj.2
    refine ⟨j + 1, ?_, ⟨by omega, by omega⟩, by omega⟩
    rw [show (10 * ((dv (List.take j (List.drop k l)) : Nat) : Int) % 18446744073709551616 + (((l.getD (k + j) 0).toNat : Int) - 48) % 256 % 18446744073709551616) % 18446744073709551616 = ((dv (List.take (j + 1) (List.drop k l)) : Nat) : Int) by rw [hs]; omega,
      show 10 * ((10 ^ j : Nat) : Int) % 18446744073709551616 = ((10 ^ (j + 1) : Nat) : Int) by rw [Nat.pow_succ]; omega]
    refine Eo [] rfl ?_ ?_ <;> simp [Me, Sl, AvLe, lk]
    omega
  · exact ⟨⟨Ml _, by omega⟩, lim_one (by omega)⟩
  · rw [hV]
    have hM := mul_len (x := dv (List.take k l)) (y := 10 ^ j) (L := 10000) (M := 1) (by omega) (by omega)
    exact ⟨⟨Ml _, by omega⟩, lim_one (by omega)⟩
  · rw [hV, hW, hF]
    have := j_pos hq
    refine ⟨k + j, ?_, by omega, by omega⟩
    refine Eo [] rfl ?_ ?_ <;> simp [Me, Sl, AvLe, lk, Ct.intsOf]
  · exact ⟨⟨Ml _, by omega⟩, lim_one (by omega)⟩
  · rw [hV]
    have hM := mul_len (x := dv (List.take k l)) (y := 10 ^ j) (L := 10000) (M := 1) (by omega) (by omega)
    exact ⟨⟨Ml _, by omega⟩, lim_one (by omega)⟩
  · rw [hV, hW, hF]
    refine ⟨k + j, ?_, by omega, by omega⟩
    refine Eo [] rfl ?_ ?_ <;> simp [Me, Sl, AvLe, lk, Ct.intsOf]
  · rw [List.take_of_length_le (by omega)]
theorem sound_61 : Sound Tryz.prog 61 .body (norm s61) := by
  refine sb Tryz.func61 rfl (by kernel_rfl) G61_ok (by kernel_rfl) fun ds p r hs hp => ?_
  unfold s61 at hs
  split at hs
  · cases hs; exact ⟨Nat.le_of_ble_eq_true (by kernel_rfl), wk61 _ hp⟩
  · cases hs
noncomputable def s152 : Cs := fun ds => match ds with
  | [.v (.int .u64 b), .v (.int .i64 n)] => some ((b = 2 ∨ b = 10) ∧ 0 ≤ n ∧ n ≤ 200000, .one (.view .u64 (limbs (b.toNat ^ n.toNat))))
  | _ => none
theorem s152_eq (b : Int) (n : Int) : norm s152 [.v (.int .u64 b), .v (.int .i64 n)] = s152 [.v (.int .u64 b), .v (.int .i64 n)] := rfl
noncomputable def G152 : Gam := [(39, .body, norm s39), (41, .body, norm s41)]
theorem G152_ok : Gk Tryz.prog G152 := Gc sound_39 (Gc sound_41 Gn)
theorem k152_39 : lk G152 39 = some (.body, norm s39) := rfl
theorem k152_41 : lk G152 41 = some (.body, norm s41) := rfl
theorem wk152 (b : Int) (n : Int) (hp : (b = 2 ∨ b = 10) ∧ 0 ≤ n ∧ n ≤ 200000) : awp ty G152 (code Tryz.f152) (retP ty Tryz.f152.results.toList (.one (.view .u64 (limbs (b.toNat ^ n.toNat))))) (entry 0 [.v (.int .u64 b), .v (.int .i64 n)]) [] := by
  unfold code
  simp only [Tryz.f152, Option.getD_some]
  have i2 : (2 : Int).toNat = 2 := rfl
  have i10 : (10 : Int).toNat = 10 := rfl
  obtain ⟨hb, hn⟩ := hp
  rcases hb with rfl | rfl
  all_goals first
    | (have gb : ((10 : Int) == 2) = false := rfl)
    | skip
  all_goals repeat' (first
 | ((with_reducible first | (refine ZA ?_; intro X hX) | (show awp _ _ _ _ (Kp _ _) _) | refine ZD ?_ | refine ZE ?_ | refine ZF ?_ | ((show Bg _ _ _ _ _); simp only [hall]) | (refine ZR ?_ ?_ <;> intro hb <;> (try simp only [hb]) <;> have hq := hb <;> try simp only [HQ] at hq)) <;> try simp only [Go.AM.SS, Nat.reduceAdd, Nat.reduceMul, Nat.reduceSub, ↓reduceIte, Nat.reduceEqDiff, Nat.reduceLT, Nat.reduceLeDiff, reduceCtorEq, Int.reduceBEq, Int.reduceBNe, Nat.reduceBEq, Int.reduceEq, Int.reduceToNat, Int.reduceLE, Int.reduceLT, Nat.reduceDiv, Int.reduceAdd, Int.reduceSub, Int.reduceMul, Int.reduceNeg, Int.reduceGT, Int.reduceGE, Nat.reduceMod, k152_39, s39.eq_1, s39_eq, s39_nil1, k152_41, s41.eq_1, s41_eq, ty_3, ty_22, ty_50, toInts, gb, sz_one, Int.toNat_one, Nat.one_mul, i2, i10])
 | with_reducible first
 | (refine hX _ _ ?_; clear hX X)
 | (refine ZG ?_; try clear hall all)
 | (refine hK _ _ ?_; clear hK K)
 | refine ZL ?_
 | (refine v_0 _ _ ?_; try clear v_0 V_0)
 | (refine v_1 _ _ ?_; try clear v_1 V_1)
 | ((first | refine qr 3 [4] ?_ | refine Zh (a := .seq (.region 1 _ _) _) [0,1] ?_ | refine qr 0 [0,1] ?_); intro V_0 v_0)
 | ((first | refine qr 2 [4] ?_ | refine qr 1 [0,1,6] ?_); intro V_1 v_1)
 | (refine ZM ?_; intro K hK)
 | (refine ZN ?_; intro all hall K hK)
 | (refine ZQ ?_ ?_)
 | refine ZT ?_ | refine ZU ?_ | refine ZW ?_)
  all_goals try clear v_1 V_1
  all_goals try clear v_0 V_0
  all_goals (try simp only [inR])
  all_goals first
    | omega
    | exact ⟨lim_one ⟨by omega, by omega⟩, by omega⟩
    | skip
theorem sound_152 : Sound Tryz.prog 152 .body (norm s152) := by
  refine sb Tryz.func152 rfl (by kernel_rfl) G152_ok (by kernel_rfl) fun ds p r hs hp => ?_
  unfold s152 at hs
  split at hs
  · cases hs; exact ⟨Nat.le_of_ble_eq_true (by kernel_rfl), wk152 _ _ hp⟩
  · cases hs
noncomputable def s81 : Cs := fun ds => match ds with
  | [.sl .u64 a, .sl .u64 b, .v (.int .u64 c), .v (.int .i64 e)] => some ((c = 2 ∨ c = 10) ∧ (lim a ∧ limbs (val a) = a ∧ a.length ≤ 1000000) ∧ lim b ∧ limbs (val b) = b ∧ b.length ≤ 1000000, .many [.view .u64 (limbs (val a * c.toNat ^ (scE c e).toNat)), .view .u64 (limbs (val b * c.toNat ^ (-scE c e).toNat))])
  | _ => none
theorem s81_eq (a : List Int) (b : List Int) (c : Int) (e : Int) : norm s81 [.sl .u64 a, .sl .u64 b, .v (.int .u64 c), .v (.int .i64 e)] = s81 [.sl .u64 a, .sl .u64 b, .v (.int .u64 c), .v (.int .i64 e)] := rfl
theorem s81_nil1  (b : List Int) (c : Int) (e : Int) : norm s81 [.v (.slice none 0 0), .sl .u64 b, .v (.int .u64 c), .v (.int .i64 e)] = s81 [.sl .u64 [], .sl .u64 b, .v (.int .u64 c), .v (.int .i64 e)] := rfl
theorem s81_nil2 (a : List Int)  (c : Int) (e : Int) : norm s81 [.sl .u64 a, .v (.slice none 0 0), .v (.int .u64 c), .v (.int .i64 e)] = s81 [.sl .u64 a, .sl .u64 [], .v (.int .u64 c), .v (.int .i64 e)] := rfl
theorem s81_nil3   (c : Int) (e : Int) : norm s81 [.v (.slice none 0 0), .v (.slice none 0 0), .v (.int .u64 c), .v (.int .i64 e)] = s81 [.sl .u64 [], .sl .u64 [], .v (.int .u64 c), .v (.int .i64 e)] := rfl
noncomputable def G81 : Gam := [(40, .body, norm s40), (152, .body, norm s152)]
theorem G81_ok : Gk Tryz.prog G81 := Gc sound_40 (Gc sound_152 Gn)
theorem k81_40 : lk G81 40 = some (.body, norm s40) := rfl
theorem k81_152 : lk G81 152 = some (.body, norm s152) := rfl
theorem wk81 (a : List Int) (b : List Int) (c : Int) (e : Int) (hp : (c = 2 ∨ c = 10) ∧ (lim a ∧ limbs (val a) = a ∧ a.length ≤ 1000000) ∧ lim b ∧ limbs (val b) = b ∧ b.length ≤ 1000000) : awp ty G81 (code Tryz.f81) (retP ty Tryz.f81.results.toList (.many [.view .u64 (limbs (val a * c.toNat ^ (scE c e).toNat)), .view .u64 (limbs (val b * c.toNat ^ (-scE c e).toNat))])) (entry 0 [.sl .u64 a, .sl .u64 b, .v (.int .u64 c), .v (.int .i64 e)]) [] := by
  unfold code
  simp only [Tryz.f81, Option.getD_some]
  have i2 : (2 : Int).toNat = 2 := rfl
  have i10 : (10 : Int).toNat = 10 := rfl
  obtain ⟨hc, la, lb⟩ := hp
  have hb := scE_b c e
  obtain ⟨E, hE'⟩ : ∃ E, scE c e = E := ⟨_, rfl⟩
  have hE'' := hE'
  rw [hE'] at hb ⊢
  rcases hc with rfl | rfl
  all_goals first
    | (rw [scE10] at hE''; have gc : ((10 : Int) == 10) = true := rfl; have hE : min (max e (-60000)) 60000 = E := hE'')
    | (rw [scE2] at hE''; have gc : ((2 : Int) == 10) = false := rfl; have hE : min (max e (-200000)) 200000 = E := hE'')
  all_goals repeat' (first
 | ((with_reducible first | (refine ZA ?_; intro X hX) | (show awp _ _ _ _ (Kp _ _) _) | refine ZD ?_ | refine ZE ?_ | refine ZF ?_ | ((show Bg _ _ _ _ _); simp only [hall]) | (refine ZR ?_ ?_ <;> intro hb <;> (try simp only [hb]) <;> have hq := hb <;> try simp only [HQ] at hq)) <;> try simp only [Go.AM.SS, Nat.reduceAdd, Nat.reduceMul, Nat.reduceSub, ↓reduceIte, Nat.reduceEqDiff, Nat.reduceLT, Nat.reduceLeDiff, reduceCtorEq, Int.reduceBEq, Int.reduceBNe, Nat.reduceBEq, Int.reduceEq, Int.reduceToNat, Int.reduceLE, Int.reduceLT, Nat.reduceDiv, Int.reduceAdd, Int.reduceSub, Int.reduceMul, Int.reduceNeg, Int.reduceGT, Int.reduceGE, Nat.reduceMod, k81_40, s40.eq_1, s40_eq, s40_nil1, s40_nil2, s40_nil3, k81_152, s152.eq_1, s152_eq, ty_3, ty_22, ty_50, toInts, gc, i2, i10, Vl, hE, Int.zero_sub])
 | with_reducible first
 | (refine hX _ _ ?_; clear hX X)
 | (refine ZG ?_; try clear hall all)
 | (refine hK _ _ ?_; clear hK K)
 | refine ZL ?_
 | (refine v_0 _ _ ?_; try clear v_0 V_0)
 | (refine v_1 _ _ ?_; try clear v_1 V_1)
 | ((first | refine qr 7 [8,9] ?_ | refine Zh (a := .seq (.region 5 _ _) _) [0,1,2,3] ?_ | refine qr 4 [0,1,2,3] ?_ | refine Zh (a := .seq (.region 2 _ _) _) [0,1,2,3,10] ?_ | refine qr 1 [0,1,2,3,10] ?_ | refine qr 0 [0,1,2,3] ?_); intro V_0 v_0)
 | ((first | refine qr 6 [8,9] ?_ | refine qr 5 [0,1,2,3,20] ?_ | refine qr 2 [0,1,2,3,10,12] ?_); intro V_1 v_1)
 | (refine ZM ?_; intro K hK)
 | (refine ZN ?_; intro all hall K hK)
 | (refine ZQ ?_ ?_)
 | refine ZT ?_ | refine ZU ?_ | refine ZW ?_)
  all_goals try clear v_1 V_1
  all_goals try clear v_0 V_0
  all_goals (try simp only [inR])
  all_goals first
    | omega
    | exact ⟨⟨la.1, by omega⟩, Ml _, by have h := @pw_len 2 E.toNat (by omega); omega⟩
    | exact ⟨⟨la.1, by omega⟩, Ml _, by have h := @pw_len 10 E.toNat (by omega); omega⟩
    | exact ⟨⟨lb.1, by omega⟩, Ml _, by have h := @pw_len 2 (-E).toNat (by omega); omega⟩
    | exact ⟨⟨lb.1, by omega⟩, Ml _, by have h := @pw_len 10 (-E).toNat (by omega); omega⟩
    | (rw [pow_zero_of (by omega), Nat.mul_one, lb.2.1]; done)
    | (rw [pow_zero_of (by omega), Nat.mul_one, la.2.1]; done)
    | skip
theorem sound_81 : Sound Tryz.prog 81 .body (norm s81) := by
  refine sb Tryz.func81 rfl (by kernel_rfl) G81_ok (by kernel_rfl) fun ds p r hs hp => ?_
  unfold s81 at hs
  split at hs
  · cases hs; exact ⟨Nat.le_of_ble_eq_true (by kernel_rfl), wk81 _ _ _ _ hp⟩
  · cases hs
noncomputable def s110 : Cs := fun ds => match ds with
  | [.v (.agg ⟨[.int .i64 cl, .bool sg, .bool si, .string D, .int .i64 ex]⟩)] => some (D.size ≤ 10000 ∧ -9223372036854775808 ≤ ex ∧ ex ≤ 9223372036854775807, .one (.v (.string (bs (gText cl sg si D.data.toList ex)))))
  | _ => none
theorem s110_eq (cl : Int) (sg : Bool) (si : Bool) (D : ByteArray) (ex : Int) : norm s110 [.v (.agg #[.int .i64 cl, .bool sg, .bool si, .string D, .int .i64 ex])] = s110 [.v (.agg #[.int .i64 cl, .bool sg, .bool si, .string D, .int .i64 ex])] := rfl
noncomputable def G110 : Gam := [(66, .body, norm lItoa)]
theorem G110_ok : Gk Tryz.prog G110 := Gc snd_lItoa Gn
theorem k110_66 : lk G110 66 = some (.body, norm lItoa) := rfl
theorem wk110 (cl : Int) (sg : Bool) (si : Bool) (D : ByteArray) (ex : Int) (hp : D.size ≤ 10000 ∧ -9223372036854775808 ≤ ex ∧ ex ≤ 9223372036854775807) : awp ty G110 (code Tryz.f110) (retP ty Tryz.f110.results.toList (.one (.v (.string (bs (gText cl sg si D.data.toList ex)))))) (entry 0 [.v (.agg #[.int .i64 cl, .bool sg, .bool si, .string D, .int .i64 ex])]) [] := by
  unfold code
  simp only [Tryz.f110, Option.getD_some]
  obtain ⟨d, rfl⟩ : ∃ d, D = bs d := ⟨_, Bt D⟩
  rw [Bz] at hp
  rw [Bd]
  have hil := Go.Lib.itoa_length_le ex hp.2.1 hp.2.2
  all_goals repeat' (first
 | ((with_reducible first | (refine ZA ?_; intro X hX) | (show awp _ _ _ _ (Kp _ _) _) | refine ZD ?_ | refine ZE ?_ | refine ZF ?_ | ((show Bg _ _ _ _ _); simp only [hall]) | (refine ZR ?_ ?_ <;> intro hb <;> (try simp only [hb]) <;> have hq := hb <;> try simp only [HQ] at hq)) <;> try simp only [Go.AM.SS, Nat.reduceAdd, Nat.reduceMul, Nat.reduceSub, ↓reduceIte, Nat.reduceEqDiff, Nat.reduceLT, Nat.reduceLeDiff, reduceCtorEq, Int.reduceBEq, Int.reduceBNe, Nat.reduceBEq, Int.reduceEq, Int.reduceToNat, Int.reduceLE, Int.reduceLT, Nat.reduceDiv, Int.reduceAdd, Int.reduceSub, Int.reduceMul, Int.reduceNeg, Int.reduceGT, Int.reduceGE, Nat.reduceMod, k110_66, lItoa_eq, ty_3, ty_4, ty_9, ty_42, bs_lit, bs_app, Bz, bs_beq, Bi, Bd, Be, bt_bs, List.length_append, List.append_nil, List.nil_append, List.cons_append])
 | with_reducible first
 | (refine hX _ _ ?_; clear hX X)
 | (refine ZG ?_; try clear hall all)
 | (refine hK _ _ ?_; clear hK K)
 | refine ZL ?_
 | (refine v_0 _ _ ?_; try clear v_0 V_0)
 | (refine v_1 _ _ ?_; try clear v_1 V_1)
 | (refine v_2 _ _ ?_; try clear v_2 V_2)
 | ((first | refine qr 19 [2] ?_ | refine Zh (a := .seq (.region 17 _ _) _) [3] ?_ | refine qr 16 [1,3] ?_ | refine Zh (a := .seq (.region 14 _ _) _) [1,3] ?_ | refine Zh (a := .seq (.region 4 _ _) _) [1,3] ?_ | refine Zh (a := .seq (.region 2 _ _) _) [1,3] ?_ | refine qr 1 [1,3] ?_ | refine qr 0 [1] ?_); intro V_0 v_0)
 | ((first | refine qr 17 [1,3,41] ?_ | refine qr 14 [1,3,32] ?_ | refine qr 6 [2] ?_ | refine qr 13 [2] ?_ | refine Zh (a := .seq (.region 11 _ _) _) [3] ?_ | refine qr 10 [1,3] ?_ | refine Zh (a := .seq (.region 8 _ _) _) [1,3] ?_ | refine qr 7 [1,3,12] ?_ | refine qr 5 [1,3,7,8] ?_ | refine qr 4 [1,3,7] ?_ | refine qr 2 [1,3,5] ?_); intro V_1 v_1)
 | ((first | refine qr 11 [1,3,22] ?_ | refine qr 8 [1,3,15] ?_); intro V_2 v_2)
 | (refine ZM ?_; intro K hK)
 | (refine ZN ?_; intro all hall K hK)
 | (refine ZQ ?_ ?_)
 | (refine Zg ?_; simp only [↓reduceIte, Nat.reduceEqDiff])
 | refine ZS ?_ | refine ZT ?_ | refine ZU ?_ | refine ZV ?_ | refine ZW ?_ | refine ZX ?_ | refine Ze ?_ | refine Zf ?_)
  all_goals try clear v_2 V_2
  all_goals try clear v_1 V_1
  all_goals try clear v_0 V_0
  all_goals (try simp only [inR])
  all_goals first
    | omega
    | (have e1 : ¬ (cl = 2 ∨ cl = 3) := by omega
       unfold gText; rw [if_neg e1]; simp_all; done)
    | (have e1 : cl = 2 ∨ cl = 3 := by omega
       unfold gText nanT; rw [if_pos e1]; simp_all; done)
    | skip
theorem sound_110 : Sound Tryz.prog 110 .body (norm s110) := by
  refine sb Tryz.func110 rfl (by kernel_rfl) G110_ok (by kernel_rfl) fun ds p r hs hp => ?_
  unfold s110 at hs
  split at hs
  · cases hs; exact ⟨Nat.le_of_ble_eq_true (by kernel_rfl), wk110 _ _ _ _ _ hp⟩
  · cases hs
noncomputable def s171 : Cs := fun ds => match ds with
  | [.v (.string s)] => some (s.size ≤ 100000, .one (.v (.bool (!s.data.toList.isEmpty && s.data.toList.all isDg))))
  | _ => none
theorem s171_eq (s : ByteArray) : norm s171 [.v (.string s)] = s171 [.v (.string s)] := rfl
noncomputable def G171 : Gam := []
theorem G171_ok : Gk Tryz.prog G171 := Gn
theorem wk171 (s : ByteArray) (hp : s.size ≤ 100000) : awp ty G171 (code Tryz.f171) (retP ty Tryz.f171.results.toList (.one (.v (.bool (!s.data.toList.isEmpty && s.data.toList.all isDg))))) (entry 0 [.v (.string s)]) [] := by
  unfold code
  simp only [Tryz.f171, Option.getD_some]
  obtain ⟨l, rfl⟩ : ∃ l, s = bs l := ⟨_, Bt s⟩
  rw [Bz] at hp
  rw [Bd]
  all_goals repeat' (first
 | ((with_reducible first | (refine ZA ?_; intro X hX) | (show awp _ _ _ _ (Kp _ _) _) | refine ZD ?_ | refine ZE ?_ | refine ZF ?_ | ((show Bg _ _ _ _ _); simp only [hall]) | (refine ZR ?_ ?_ <;> intro hb <;> (try simp only [hb]) <;> have hq := hb <;> try simp only [HQ] at hq)) <;> try simp only [Go.AM.SS, Nat.reduceAdd, Nat.reduceMul, Nat.reduceSub, ↓reduceIte, Nat.reduceEqDiff, Nat.reduceLT, Nat.reduceLeDiff, reduceCtorEq, Int.reduceBEq, Int.reduceBNe, Nat.reduceBEq, Int.reduceEq, Int.reduceToNat, Int.reduceLE, Int.reduceLT, Nat.reduceDiv, Int.reduceAdd, Int.reduceSub, Int.reduceMul, Int.reduceNeg, Int.reduceGT, Int.reduceGE, Nat.reduceMod, ty_3, ty_5, ty_9, bs_lit, bs_app, Bz, bs_beq, Bi, Bd, Be, bt_bs, List.length_append, List.append_nil, List.nil_append, List.cons_append])
 | with_reducible first
 | (refine hX _ _ ?_; clear hX X)
 | (refine ZG ?_; try clear hall all)
 | (refine hK _ _ ?_; clear hK K)
 | refine ZL ?_
 | (refine v_0 _ _ ?_; try clear v_0 V_0)
 | (refine v_1 _ _ ?_; try clear v_1 V_1)
 | (refine v_2 _ _ ?_; try clear v_2 V_2)
    | (with_reducible refine awp_lp (c := .seq (.seq (.region 2 _ _) _) _) (σ := Nat) (fun k => k ≤ l.length ∧ (l.take k).all isDg = true) (fun k => [(0, .v (.string (bs l))), (3, .v (.int .i64 k))]) (fun k => []) (fun k => l.length - k) 0 ?_ ?_ (fun k hk => ?_))
 | ((first | refine qr 6 [2] ?_ | refine Zh (a := .seq (.region 1 _ _) _) [0] ?_ | refine qr 0 [0] ?_); intro V_0 v_0)
 | ((first | refine qb 1 [0,3] ?_ | refine Zh (a := .seq (.region 2 _ _) _) [0,3] ?_ | refine qr 1 [0,3] ?_); intro V_1 v_1)
 | ((first | refine qr 5 [2] ?_ | refine qr 4 [0,3,19] ?_ | refine qr 2 [0,3,7] ?_); intro V_2 v_2)
 | (refine ZM ?_; intro K hK)
 | (refine ZN ?_; intro all hall K hK)
 | (refine ZQ ?_ ?_)
 | (refine Zg ?_; simp only [↓reduceIte, Nat.reduceEqDiff])
 | refine ZS ?_ | refine ZT ?_ | refine ZU ?_ | refine ZV ?_ | refine ZW ?_ | refine ZX ?_ | refine ZY ?_ | refine ZZ ?_ | refine Za ?_ | refine Ze ?_ | refine Zf ?_)
  all_goals try clear v_2 V_2
  all_goals try clear v_1 V_1
  all_goals try clear v_0 V_0
  all_goals (try simp only [inR])
  all_goals first
    | omega
    | exact ⟨Nat.zero_le _, rfl⟩
    | ((refine Eo [] rfl ?_ ?_ <;> simp [Me, Sl, AvLe, lk]); done)
    | exact ⟨k + 1, (by (refine Eo [] rfl ?_ ?_ <;> simp [Me, Sl, AvLe, lk])), ⟨by omega, run_step (by assumption) hk.2 (by assumption) (by assumption)⟩, by omega⟩
    | (rw [digits_no (by assumption) (isDg_hi hq)]; done)
    | (rw [digits_no (by assumption) (isDg_lo hq)]; done)
    | (rw [digits_end hk.2 hq]; done)
    | skip
theorem sound_171 : Sound Tryz.prog 171 .body (norm s171) := by
  refine sb Tryz.func171 rfl (by kernel_rfl) G171_ok (by kernel_rfl) fun ds p r hs hp => ?_
  unfold s171 at hs
  split at hs
  · cases hs; exact ⟨Nat.le_of_ble_eq_true (by kernel_rfl), wk171 _ hp⟩
  · cases hs
noncomputable def s102 : Cs := fun ds => match ds with
  | [.v (.agg ⟨[.int .i64 cl, .bool sg, .bool si, .string D, .int .i64 ex]⟩)] => some (D.size ≤ 10000 ∧ -9223372036854775808 ≤ ex ∧ ex ≤ 9223372036854775807, .one (.v (.bool (gGood cl sg si D.data.toList ex))))
  | _ => none
theorem s102_eq (cl : Int) (sg : Bool) (si : Bool) (D : ByteArray) (ex : Int) : norm s102 [.v (.agg #[.int .i64 cl, .bool sg, .bool si, .string D, .int .i64 ex])] = s102 [.v (.agg #[.int .i64 cl, .bool sg, .bool si, .string D, .int .i64 ex])] := rfl
noncomputable def G102 : Gam := [(110, .body, norm s110), (171, .body, norm s171)]
theorem G102_ok : Gk Tryz.prog G102 := Gc sound_110 (Gc sound_171 Gn)
theorem k102_110 : lk G102 110 = some (.body, norm s110) := rfl
theorem k102_171 : lk G102 171 = some (.body, norm s171) := rfl
theorem wk102 (cl : Int) (sg : Bool) (si : Bool) (D : ByteArray) (ex : Int) (hp : D.size ≤ 10000 ∧ -9223372036854775808 ≤ ex ∧ ex ≤ 9223372036854775807) : awp ty G102 (code Tryz.f102) (retP ty Tryz.f102.results.toList (.one (.v (.bool (gGood cl sg si D.data.toList ex))))) (entry 0 [.v (.agg #[.int .i64 cl, .bool sg, .bool si, .string D, .int .i64 ex])]) [] := by
  unfold code
  simp only [Tryz.f102, Option.getD_some]
  obtain ⟨d, rfl⟩ : ∃ d, D = bs d := ⟨_, Bt D⟩
  rw [Bz] at hp
  rw [Bd]
  have hgl := gText_len (c := cl) (s := sg) (q := si) hp.1 hp.2
  all_goals repeat' (first
 | ((with_reducible first | (refine ZA ?_; intro X hX) | (show awp _ _ _ _ (Kp _ _) _) | refine ZD ?_ | refine ZE ?_ | refine ZF ?_ | ((show Bg _ _ _ _ _); simp only [hall]) | (refine ZR ?_ ?_ <;> intro hb <;> (try simp only [hb]) <;> have hq := hb <;> try simp only [HQ] at hq)) <;> try simp only [Go.AM.SS, Nat.reduceAdd, Nat.reduceMul, Nat.reduceSub, ↓reduceIte, Nat.reduceEqDiff, Nat.reduceLT, Nat.reduceLeDiff, reduceCtorEq, Int.reduceBEq, Int.reduceBNe, Nat.reduceBEq, Int.reduceEq, Int.reduceToNat, Int.reduceLE, Int.reduceLT, Nat.reduceDiv, Int.reduceAdd, Int.reduceSub, Int.reduceMul, Int.reduceNeg, Int.reduceGT, Int.reduceGE, Nat.reduceMod, k102_110, s110.eq_1, s110_eq, k102_171, s171.eq_1, s171_eq, ty_3, ty_4, ty_5, ty_9, ty_42, bs_lit, bs_app, Bz, bs_beq, Bi, Bd, Be, bt_bs, List.length_append, List.append_nil, List.nil_append, List.cons_append])
 | with_reducible first
 | (refine hX _ _ ?_; clear hX X)
 | (refine ZG ?_; try clear hall all)
 | (refine hK _ _ ?_; clear hK K)
 | refine ZL ?_
 | (refine v_0 _ _ ?_; try clear v_0 V_0)
 | (refine v_1 _ _ ?_; try clear v_1 V_1)
 | ((first | refine qr 10 [2] ?_ | refine Zh (a := .seq (.region 3 _ _) _) [] ?_ | refine Zh (a := .seq (.region 1 _ _) _) [1] ?_ | refine qr 0 [1] ?_); intro V_0 v_0)
 | ((first | refine qr 5 [2] ?_ | refine qr 7 [2] ?_ | refine qr 9 [2] ?_ | refine qr 8 [1,56] ?_ | refine qr 6 [1,19,41] ?_ | refine qr 4 [1,19,20] ?_ | refine qr 3 [1,19] ?_ | refine qr 2 [2] ?_ | refine qr 1 [1,17] ?_); intro V_1 v_1)
 | (refine ZM ?_; intro K hK)
 | (refine ZN ?_; intro all hall K hK)
 | (refine ZQ ?_ ?_)
 | (refine Zg ?_; simp only [↓reduceIte, Nat.reduceEqDiff])
 | refine ZS ?_ | refine ZT ?_ | refine ZU ?_ | refine ZV ?_ | refine ZW ?_ | refine ZX ?_ | refine Ze ?_ | refine Zf ?_)
  all_goals try clear v_1 V_1
  all_goals try clear v_0 V_0
  all_goals (try simp only [inR])
  all_goals (try omega)
  all_goals (try (have := List.length_pos_iff.2 (by assumption : ¬ d = []); omega))
  all_goals (have hc : decide (((gText cl sg si d ex).length : Int) ≤ 4000) = decide ((gText cl sg si d ex).length ≤ 4000) := decide_eq_decide.2 (by omega))
  all_goals first
    | (have hdg : dgOk d = true := by
         first
           | (rw [show d = [] by assumption]; rfl)
           | exact dg_c (by assumption) (by assumption))
    | (have hdg : dgOk d = false := by
         first
           | exact dg_b (by assumption) (by assumption)
           | exact dg_a (by assumption) (by assumption))
    | skip
  all_goals (try rw [hc])
  all_goals (clear hc; unfold gGood; rw [hdg]; simp_all)
  all_goals first
    | omega
    | rfl
theorem sound_102 : Sound Tryz.prog 102 .body (norm s102) := by
  refine sb Tryz.func102 rfl (by kernel_rfl) G102_ok (by kernel_rfl) fun ds p r hs hp => ?_
  unfold s102 at hs
  split at hs
  · cases hs; exact ⟨Nat.le_of_ble_eq_true (by kernel_rfl), wk102 _ _ _ _ _ hp⟩
  · cases hs
noncomputable def s87 : Cs := fun ds => match ds with
  | [.sl .u64 a, .sl .u64 b] => some ((lim a ∧ a.length ≤ 50000000) ∧ lim b ∧ b.length ≤ 50000000, .one (.v (.int .i64 (cmpI (val a) (val b)))))
  | _ => none
theorem s87_eq (a : List Int) (b : List Int) : norm s87 [.sl .u64 a, .sl .u64 b] = s87 [.sl .u64 a, .sl .u64 b] := rfl
theorem s87_nil1  (b : List Int) : norm s87 [.v (.slice none 0 0), .sl .u64 b] = s87 [.sl .u64 [], .sl .u64 b] := rfl
theorem s87_nil2 (a : List Int)  : norm s87 [.sl .u64 a, .v (.slice none 0 0)] = s87 [.sl .u64 a, .sl .u64 []] := rfl
theorem s87_nil3   : norm s87 [.v (.slice none 0 0), .v (.slice none 0 0)] = s87 [.sl .u64 [], .sl .u64 []] := rfl
noncomputable def G87 : Gam := [(109, .body, norm s109)]
theorem G87_ok : Gk Tryz.prog G87 := Gc sound_109 Gn
theorem k87_109 : lk G87 109 = some (.body, norm s109) := rfl
theorem wk87 (a : List Int) (b : List Int) (hp : (lim a ∧ a.length ≤ 50000000) ∧ lim b ∧ b.length ≤ 50000000) : awp ty G87 (code Tryz.f87) (retP ty Tryz.f87.results.toList (.one (.v (.int .i64 (cmpI (val a) (val b)))))) (entry 0 [.sl .u64 a, .sl .u64 b]) [] := by
  unfold code
  simp only [Tryz.f87, Option.getD_some]
  obtain ⟨N, hN⟩ : ∃ N, max a.length b.length = N := ⟨_, rfl⟩
  have mE : max (a.length : Int) (b.length : Int) = (N : Int) := by omega
  all_goals repeat' (first
 | ((with_reducible first | (refine ZA ?_; intro X hX) | (show awp _ _ _ _ (Kp _ _) _) | refine ZD ?_ | refine ZE ?_ | refine ZF ?_ | ((show Bg _ _ _ _ _); simp only [hall]) | (refine ZR ?_ ?_ <;> intro hb <;> (try simp only [hb]) <;> have hq := hb <;> try simp only [HQ] at hq)) <;> try simp only [Go.AM.SS, Nat.reduceAdd, Nat.reduceMul, Nat.reduceSub, ↓reduceIte, Nat.reduceEqDiff, Nat.reduceLT, Nat.reduceLeDiff, reduceCtorEq, Int.reduceBEq, Int.reduceBNe, Nat.reduceBEq, Int.reduceEq, Int.reduceToNat, Int.reduceLE, Int.reduceLT, Nat.reduceDiv, Int.reduceAdd, Int.reduceSub, Int.reduceMul, Int.reduceNeg, Int.reduceGT, Int.reduceGE, Nat.reduceMod, k87_109, s109.eq_1, s109_eq, s109_nil1, ty_3, ty_22, ty_50, mE])
 | with_reducible first
 | (refine hX _ _ ?_; clear hX X)
 | (refine ZG ?_; try clear hall all)
 | (refine hK _ _ ?_; clear hK K)
 | refine ZL ?_
 | (refine v_0 _ _ ?_; try clear v_0 V_0)
 | (refine v_1 _ _ ?_; try clear v_1 V_1)
 | (refine v_2 _ _ ?_; try clear v_2 V_2)
 | (refine v_3 _ _ ?_; try clear v_3 V_3)
    | (with_reducible refine awp_lp (σ := Nat) (fun n => n ≤ N ∧ val (a.drop n) = val (b.drop n)) (fun n => [(0, .rd .u64 a), (1, .rd .u64 b), (5, .v (.int .i64 ((n : Int) - 1)))]) (fun _ => []) (fun n => n) N ?_ ?_ (fun s hs => ?_))
 | ((first | refine qr 9 [4] ?_ | refine Zh (a := .seq (.region 1 _ _) _) [] ?_ | refine qr 0 [0,1] ?_); intro V_0 v_0)
 | ((first | refine qb 1 [0,1,5] ?_ | refine Zh (a := .seq (.region 2 _ _) _) [0,1,5] ?_ | refine qr 1 [0,1,5] ?_); intro V_1 v_1)
 | ((first | refine qr 8 [4] ?_ | refine qr 7 [0,1,5,29] ?_ | refine Zh (a := .seq (.region 5 _ _) _) [0,1,5,6,7] ?_ | refine qr 4 [0,1,5,6,7] ?_ | refine qr 2 [0,1,5,15] ?_); intro V_2 v_2)
 | ((first | refine qr 6 [4] ?_ | refine qr 5 [0,1,5,6,7,26] ?_); intro V_3 v_3)
 | (refine ZM ?_; intro K hK)
 | (refine ZN ?_; intro all hall K hK)
 | (refine ZQ ?_ ?_)
 | (refine Zg ?_; simp only [↓reduceIte, Nat.reduceEqDiff])
 | refine ZS ?_ | refine ZT ?_ | refine ZU ?_ | refine ZV ?_ | refine ZW ?_ | refine ZX ?_ | refine ZY ?_ | refine ZZ ?_ | refine Za ?_ | refine Ze ?_ | refine Zf ?_)
  all_goals try clear v_3 V_3
  all_goals try clear v_2 V_2
  all_goals try clear v_1 V_1
  all_goals try clear v_0 V_0
  all_goals clear mE
  all_goals (try simp only [inR])
  all_goals (try omega)
  · exact ⟨Nat.le_refl _, by rw [List.drop_eq_nil_of_le (by omega), List.drop_eq_nil_of_le (by omega)]⟩
  · with_reducible exact Ent.refl _ _
  · have e : ((s : Int) - 1).toNat = s - 1 := by omega
    rw [e] at hq
    rw [cmpI_lt (drop_step_lt (i := s - 1) hp.1.1 hp.2.1 (by rw [show s - 1 + 1 = s by omega]; exact hs.2) hq)]
  · have e : ((s : Int) - 1).toNat = s - 1 := by omega
    rw [e] at hq
    rw [cmpI_gt (drop_step_lt (i := s - 1) hp.2.1 hp.1.1 (by rw [show s - 1 + 1 = s by omega]; exact hs.2.symm) hq)]
  · have e : ((s : Int) - 1).toNat = s - 1 := by omega
    simp only [e] at *
    exact ⟨s - 1, (by (refine Eo [] rfl ?_ ?_ <;> simp only [Me, Sl, AvLe, lk, ↓reduceIte, Nat.reduceEqDiff, Option.isSome_some, and_self, and_true, true_and, reduceCtorEq, List.map_nil, List.map_cons, Option.some.injEq, AV.v.injEq, Value.int.injEq, Value.bool.injEq, AV.rd.injEq, AV.ow.injEq, AV.al.injEq, AV.ref.injEq] <;> omega)), ⟨by omega, drop_step_eq (by rw [show s - 1 + 1 = s by omega]; exact hs.2) (by omega)⟩, by omega⟩
  · have h0 : s = 0 := by omega
    subst h0
    have h1 := hs.2
    rw [List.drop_zero, List.drop_zero] at h1
    rw [cmpI_eq h1]
theorem sound_87 : Sound Tryz.prog 87 .body (norm s87) := by
  refine sb Tryz.func87 rfl (by kernel_rfl) G87_ok (by kernel_rfl) fun ds p r hs hp => ?_
  unfold s87 at hs
  split at hs
  · cases hs; exact ⟨Nat.le_of_ble_eq_true (by kernel_rfl), wk87 _ _ hp⟩
  · cases hs
noncomputable def s103 : Cs := fun ds => match ds with
  | [.v (.agg ⟨[.int .i64 cl, .bool sg, .bool si, .string D, .int .i64 ex]⟩), .sl .u64 b] => some ((D.data.toList.all isDg = true ∧ D.size ≤ 4000) ∧ (lim b ∧ b.length ≤ 4) ∧ val b ≤ 2 ^ 255, .one (.v (.agg #[.int .u64 (w4 (payV si (dv D.data.toList) (val b)) 0), .int .u64 (w4 (payV si (dv D.data.toList) (val b)) 1), .int .u64 (w4 (payV si (dv D.data.toList) (val b)) 2), .int .u64 (w4 (payV si (dv D.data.toList) (val b)) 3)])))
  | _ => none
theorem s103_eq (cl : Int) (sg : Bool) (si : Bool) (D : ByteArray) (ex : Int) (b : List Int) : norm s103 [.v (.agg #[.int .i64 cl, .bool sg, .bool si, .string D, .int .i64 ex]), .sl .u64 b] = s103 [.v (.agg #[.int .i64 cl, .bool sg, .bool si, .string D, .int .i64 ex]), .sl .u64 b] := rfl
theorem s103_nil1 (cl : Int) (sg : Bool) (si : Bool) (D : ByteArray) (ex : Int)  : norm s103 [.v (.agg #[.int .i64 cl, .bool sg, .bool si, .string D, .int .i64 ex]), .v (.slice none 0 0)] = s103 [.v (.agg #[.int .i64 cl, .bool sg, .bool si, .string D, .int .i64 ex]), .sl .u64 []] := rfl
noncomputable def G103 : Gam := [(48, .body, norm s48), (61, .body, norm s61), (87, .body, norm s87)]
theorem G103_ok : Gk Tryz.prog G103 := Gc sound_48 (Gc sound_61 (Gc sound_87 Gn))
theorem k103_48 : lk G103 48 = some (.body, norm s48) := rfl
theorem k103_61 : lk G103 61 = some (.body, norm s61) := rfl
theorem k103_87 : lk G103 87 = some (.body, norm s87) := rfl
theorem wk103 (cl : Int) (sg : Bool) (si : Bool) (D : ByteArray) (ex : Int) (b : List Int) (hp : (D.data.toList.all isDg = true ∧ D.size ≤ 4000) ∧ (lim b ∧ b.length ≤ 4) ∧ val b ≤ 2 ^ 255) : awp ty G103 (code Tryz.f103) (retP ty Tryz.f103.results.toList (.one (.v (.agg #[.int .u64 (w4 (payV si (dv D.data.toList) (val b)) 0), .int .u64 (w4 (payV si (dv D.data.toList) (val b)) 1), .int .u64 (w4 (payV si (dv D.data.toList) (val b)) 2), .int .u64 (w4 (payV si (dv D.data.toList) (val b)) 3)])))) (entry 0 [.v (.agg #[.int .i64 cl, .bool sg, .bool si, .string D, .int .i64 ex]), .sl .u64 b]) [] := by
  unfold code
  simp only [Tryz.f103, Option.getD_some]
  obtain ⟨d, rfl⟩ : ∃ d, D = bs d := ⟨_, Bt D⟩
  rw [Bz, Bd] at hp
  rw [Bd]
  have hpl := len4 (payV_lt (q := si) (x := dv d) hp.2.2)
  have hL := dv_len hp.1.1
  all_goals repeat' (first
 | ((with_reducible first | (refine ZA ?_; intro X hX) | (show awp _ _ _ _ (Kp _ _) _) | refine ZD ?_ | refine ZE ?_ | refine ZF ?_ | ((show Bg _ _ _ _ _); simp only [hall]) | (refine ZR ?_ ?_ <;> intro hb <;> (try simp only [hb]) <;> have hq := hb <;> try simp only [HQ] at hq)) <;> try simp only [Go.AM.SS, Nat.reduceAdd, Nat.reduceMul, Nat.reduceSub, ↓reduceIte, Nat.reduceEqDiff, Nat.reduceLT, Nat.reduceLeDiff, reduceCtorEq, Int.reduceBEq, Int.reduceBNe, Nat.reduceBEq, Int.reduceEq, Int.reduceToNat, Int.reduceLE, Int.reduceLT, Nat.reduceDiv, Int.reduceAdd, Int.reduceSub, Int.reduceMul, Int.reduceNeg, Int.reduceGT, Int.reduceGE, Nat.reduceMod, k103_48, s48.eq_1, s48_eq, s48_nil1, k103_61, s61.eq_1, s61_eq, k103_87, s87.eq_1, s87_eq, s87_nil1, s87_nil2, s87_nil3, ty_3, ty_4, ty_9, ty_22, ty_24, ty_42, ty_50, bs_lit, bs_app, Bz, bs_beq, Bi, Bd, Be, bt_bs, List.length_append, List.append_nil, List.nil_append, List.cons_append, toInts, Vl, limbs_getD])
 | with_reducible first
 | (refine hX _ _ ?_; clear hX X)
 | (refine ZG ?_; try clear hall all)
 | (refine hK _ _ ?_; clear hK K)
 | refine ZL ?_
 | (refine v_0 _ _ ?_; try clear v_0 V_0)
 | (refine v_1 _ _ ?_; try clear v_1 V_1)
 | ((first | refine qr 6 [4] ?_ | refine Zh (a := .seq (.region 4 _ _) _) [4,5] ?_ | refine Zh (a := .seq (.region 2 _ _) _) [2,4,5] ?_ | refine qr 1 [1,2,4,5] ?_ | refine qr 0 [1,2,4] ?_); intro V_0 v_0)
 | ((first | refine qr 4 [4,5,19] ?_ | refine qr 2 [2,4,5,12] ?_); intro V_1 v_1)
 | (refine ZM ?_; intro K hK)
 | (refine ZN ?_; intro all hall K hK)
 | (refine ZQ ?_ ?_)
 | refine ZT ?_ | refine ZU ?_ | refine ZW ?_)
  all_goals try clear v_1 V_1
  all_goals try clear v_0 V_0
  all_goals (try simp only [inR])
  all_goals first
    | omega
    | exact ⟨hp.1.1, by omega⟩
    | exact ⟨⟨Ml _, by omega⟩, hp.2.1.1, by omega⟩
    | exact ⟨Ml _, by decide +kernel⟩
    | (rw [hq, payV_0t (x := dv d) (B := val b) (pay_ge (by assumption)), w4_1.1, w4_1.2.1, w4_1.2.2.1, w4_1.2.2.2]; rfl)
    | (have hs : si = false := by assumption
       rw [hs, payV_0f (x := dv d) (B := val b) (pay_ge (by assumption)), w4_0, w4_0, w4_0, w4_0]; rfl)
    | (have z : dv d = 0 := len_zero.1 (by omega)
       have hs : si = true := by assumption
       rw [hs, payV_0t (x := dv d) (B := val b) (by rw [z]; split <;> rfl), w4_1.1, w4_1.2.1, w4_1.2.2.1, w4_1.2.2.2]; rfl)
    | (have z : dv d ≠ 0 := fun h => hq (by have := (len_zero (x := dv d)).2 h; omega)
       have e := payV_x (q := si) (x := dv d) (B := val b) (pay_lt (by assumption)) (.inr z)
       rw [e] at hpl; exact ⟨Ml _, hpl⟩)
    | (have z : dv d ≠ 0 := fun h => hq (by have := (len_zero (x := dv d)).2 h; omega)
       rw [payV_x (q := si) (x := dv d) (B := val b) (pay_lt (by assumption)) (.inr z)]; done)
    | (have e := payV_x (q := si) (x := dv d) (B := val b) (pay_lt (by assumption)) (.inl hq)
       rw [e] at hpl; exact ⟨Ml _, hpl⟩)
    | (rw [payV_x (q := si) (x := dv d) (B := val b) (pay_lt (by assumption)) (.inl hq)]; done)
    | skip
theorem sound_103 : Sound Tryz.prog 103 .body (norm s103) := by
  refine sb Tryz.func103 rfl (by kernel_rfl) G103_ok (by kernel_rfl) fun ds p r hs hp => ?_
  unfold s103 at hs
  split at hs
  · cases hs; exact ⟨Nat.le_of_ble_eq_true (by kernel_rfl), wk103 _ _ _ _ _ _ hp⟩
  · cases hs
noncomputable def s172 : Cs := fun ds => match ds with
  | [.sl .u64 a, .sl .u64 b] => some ((lim a ∧ limbs (val a) = a ∧ a.length ≤ 10000) ∧ lim b ∧ limbs (val b) = b ∧ b.length ≤ 10000, .one (.v (.int .i64 (lowR (val a) (val b)))))
  | _ => none
theorem s172_eq (a : List Int) (b : List Int) : norm s172 [.sl .u64 a, .sl .u64 b] = s172 [.sl .u64 a, .sl .u64 b] := rfl
theorem s172_nil1  (b : List Int) : norm s172 [.v (.slice none 0 0), .sl .u64 b] = s172 [.sl .u64 [], .sl .u64 b] := rfl
theorem s172_nil2 (a : List Int)  : norm s172 [.sl .u64 a, .v (.slice none 0 0)] = s172 [.sl .u64 a, .sl .u64 []] := rfl
theorem s172_nil3   : norm s172 [.v (.slice none 0 0), .v (.slice none 0 0)] = s172 [.sl .u64 [], .sl .u64 []] := rfl
noncomputable def G172 : Gam := [(47, .body, norm s47), (81, .body, norm s81), (87, .body, norm s87)]
theorem G172_ok : Gk Tryz.prog G172 := Gc sound_47 (Gc sound_81 (Gc sound_87 Gn))
theorem k172_47 : lk G172 47 = some (.body, norm s47) := rfl
theorem k172_81 : lk G172 81 = some (.body, norm s81) := rfl
theorem k172_87 : lk G172 87 = some (.body, norm s87) := rfl
theorem wk172 (a : List Int) (b : List Int) (hp : (lim a ∧ limbs (val a) = a ∧ a.length ≤ 10000) ∧ lim b ∧ limbs (val b) = b ∧ b.length ≤ 10000) : awp ty G172 (code Tryz.f172) (retP ty Tryz.f172.results.toList (.one (.v (.int .i64 (lowR (val a) (val b)))))) (entry 0 [.sl .u64 a, .sl .u64 b]) [] := by
  unfold code
  simp only [Tryz.f172, Option.getD_some]
  have i2 : (2 : Int).toNat = 2 := rfl
  obtain ⟨la, lb⟩ := hp
  have ba := blen_val la.1
  have bb := blen_val lb.1
  have sb := scE_b 2 (-((blen (val a) : Int) - blen (val b)))
  all_goals repeat' (first
 | ((with_reducible first | (refine ZA ?_; intro X hX) | (show awp _ _ _ _ (Kp _ _) _) | refine ZD ?_ | refine ZE ?_ | refine ZF ?_ | ((show Bg _ _ _ _ _); simp only [hall]) | (refine ZR ?_ ?_ <;> intro hb <;> (try simp only [hb]) <;> have hq := hb <;> try simp only [HQ] at hq)) <;> try simp only [Go.AM.SS, Nat.reduceAdd, Nat.reduceMul, Nat.reduceSub, ↓reduceIte, Nat.reduceEqDiff, Nat.reduceLT, Nat.reduceLeDiff, reduceCtorEq, Int.reduceBEq, Int.reduceBNe, Nat.reduceBEq, Int.reduceEq, Int.reduceToNat, Int.reduceLE, Int.reduceLT, Nat.reduceDiv, Int.reduceAdd, Int.reduceSub, Int.reduceMul, Int.reduceNeg, Int.reduceGT, Int.reduceGE, Nat.reduceMod, k172_47, s47.eq_1, s47_eq, s47_nil1, k172_81, s81.eq_1, s81_eq, s81_nil1, s81_nil2, s81_nil3, k172_87, s87.eq_1, s87_eq, s87_nil1, s87_nil2, s87_nil3, ty_3, ty_22, ty_50, toInts, i2, Vl, Int.zero_sub])
 | with_reducible first
 | (refine hX _ _ ?_; clear hX X)
 | (refine ZG ?_; try clear hall all)
 | (refine hK _ _ ?_; clear hK K)
 | refine ZL ?_
 | (refine v_0 _ _ ?_; try clear v_0 V_0)
 | (refine v_1 _ _ ?_; try clear v_1 V_1)
 | ((first | refine qr 5 [4] ?_ | refine Zh (a := .seq (.region 3 _ _) _) [5] ?_ | refine qr 2 [5,6,7] ?_ | refine qr 1 [0,1,5] ?_ | refine qr 0 [0,1] ?_); intro V_0 v_0)
 | ((first | refine qr 3 [5,24] ?_); intro V_1 v_1)
 | (refine ZM ?_; intro K hK)
 | (refine ZN ?_; intro all hall K hK)
 | (refine ZQ ?_ ?_)
 | refine ZT ?_ | refine ZU ?_ | refine ZW ?_)
  all_goals try clear v_1 V_1
  all_goals try clear v_0 V_0
  all_goals (try simp only [inR])
  all_goals first
    | omega
    | exact ⟨la.1, by omega⟩
    | exact ⟨lb.1, by omega⟩
    | exact ⟨⟨la.1, la.2.1, by omega⟩, lb.1, lb.2.1, by omega⟩
    | exact ⟨⟨Ml _, by have := len_valpow la.1 (scE 2 (-((blen (val a) : Int) - blen (val b)))).toNat; omega⟩, Ml _, by have := len_valpow lb.1 (-scE 2 (-((blen (val a) : Int) - blen (val b)))).toNat; omega⟩
    | (rw [lowR_lt hq]; done)
    | (rw [lowR_ge hq]; done)
    | skip
theorem sound_172 : Sound Tryz.prog 172 .body (norm s172) := by
  refine sb Tryz.func172 rfl (by kernel_rfl) G172_ok (by kernel_rfl) fun ds p r hs hp => ?_
  unfold s172 at hs
  split at hs
  · cases hs; exact ⟨Nat.le_of_ble_eq_true (by kernel_rfl), wk172 _ _ hp⟩
  · cases hs
noncomputable def s177 : Cs := fun ds => match ds with
  | [.v (.int .u64 n)] => some (0 ≤ n ∧ n < 18446744073709551616, .one (.fresh .u64 (limbs n.toNat)))
  | _ => none
theorem s177_eq (n : Int) : norm s177 [.v (.int .u64 n)] = s177 [.v (.int .u64 n)] := rfl
noncomputable def G177 : Gam := [(105, .body, norm s105)]
theorem G177_ok : Gk Tryz.prog G177 := Gc sound_105 Gn
theorem k177_105 : lk G177 105 = some (.body, norm s105) := rfl
theorem wk177 (n : Int) (hp : 0 ≤ n ∧ n < 18446744073709551616) : awp ty G177 (code Tryz.f177) (retP ty Tryz.f177.results.toList (.one (.fresh .u64 (limbs n.toNat)))) (entry 0 [.v (.int .u64 n)]) [] := by
  unfold code
  simp only [Tryz.f177, Option.getD_some]
  all_goals repeat' (first
 | ((with_reducible first | (refine ZA ?_; intro X hX) | (show awp _ _ _ _ (Kp _ _) _) | refine ZD ?_ | refine ZE ?_ | refine ZF ?_ | ((show Bg _ _ _ _ _); simp only [hall]) | (refine ZR ?_ ?_ <;> intro hb <;> (try simp only [hb]) <;> have hq := hb <;> try simp only [HQ] at hq)) <;> try simp only [Go.AM.SS, Nat.reduceAdd, Nat.reduceMul, Nat.reduceSub, ↓reduceIte, Nat.reduceEqDiff, Nat.reduceLT, Nat.reduceLeDiff, reduceCtorEq, Int.reduceBEq, Int.reduceBNe, Nat.reduceBEq, Int.reduceEq, Int.reduceToNat, Int.reduceLE, Int.reduceLT, Nat.reduceDiv, Int.reduceAdd, Int.reduceSub, Int.reduceMul, Int.reduceNeg, Int.reduceGT, Int.reduceGE, Nat.reduceMod, k177_105, s105.eq_1, s105_eq, s105_nil1, ty_22, ty_50, sz_one, toInts])
 | with_reducible first
 | (refine hX _ _ ?_; clear hX X)
 | (refine ZG ?_; try clear hall all)
 | (refine hK _ _ ?_; clear hK K)
 | refine ZL ?_
 | (refine v_0 _ _ ?_; try clear v_0 V_0)
 | ((first | refine qr 1 [2] ?_ | refine qr 0 [0] ?_); intro V_0 v_0)
 | (refine ZM ?_; intro K hK)
 | (refine ZN ?_; intro all hall K hK)
 | (refine ZQ ?_ ?_)
 | refine ZT ?_ | refine ZU ?_ | refine ZW ?_)
  all_goals try clear v_0 V_0
  all_goals first
    | exact lim_one hp
    | exact ⟨lim_one hp, Nat.le_of_ble_eq_true rfl⟩
theorem sound_177 : Sound Tryz.prog 177 .body (norm s177) := by
  refine sb Tryz.func177 rfl (by kernel_rfl) G177_ok (by kernel_rfl) fun ds p r hs hp => ?_
  unfold s177 at hs
  split at hs
  · cases hs; exact ⟨Nat.le_of_ble_eq_true (by kernel_rfl), wk177 _ hp⟩
  · cases hs
noncomputable def s108 : Cs := fun ds => match ds with
  | [.sl .u64 a, .v (.int .u64 n)] => some ((lim a ∧ a.length ≤ 100000000) ∧ 0 < n ∧ n < 18446744073709551616, .many [.fresh .u64 (limbs (val a / n.toNat)), .fresh .u64 (limbs (val a % n.toNat))])
  | _ => none
theorem s108_eq (a : List Int) (n : Int) : norm s108 [.sl .u64 a, .v (.int .u64 n)] = s108 [.sl .u64 a, .v (.int .u64 n)] := rfl
theorem s108_nil1  (n : Int) : norm s108 [.v (.slice none 0 0), .v (.int .u64 n)] = s108 [.sl .u64 [], .v (.int .u64 n)] := rfl
noncomputable def G108 : Gam := [(105, .body, norm s105), (176, .body, norm s176), (177, .body, norm s177)]
theorem G108_ok : Gk Tryz.prog G108 := Gc sound_105 (Gc sound_176 (Gc sound_177 Gn))
theorem k108_105 : lk G108 105 = some (.body, norm s105) := rfl
theorem k108_176 : lk G108 176 = some (.body, norm s176) := rfl
theorem k108_177 : lk G108 177 = some (.body, norm s177) := rfl
theorem wk108 (a : List Int) (n : Int) (hp : (lim a ∧ a.length ≤ 100000000) ∧ 0 < n ∧ n < 18446744073709551616) : awp ty G108 (code Tryz.f108) (retP ty Tryz.f108.results.toList (.many [.fresh .u64 (limbs (val a / n.toNat)), .fresh .u64 (limbs (val a % n.toNat))])) (entry 0 [.sl .u64 a, .v (.int .u64 n)]) [] := by
  unfold code
  simp only [Tryz.f108, Option.getD_some]
  obtain ⟨m, rfl⟩ := Int.eq_ofNat_of_zero_le (show 0 ≤ n by omega)
  all_goals repeat' (first
 | ((with_reducible first | (refine ZA ?_; intro X hX) | (show awp _ _ _ _ (Kp _ _) _) | refine ZD ?_ | refine ZE ?_ | refine ZF ?_ | ((show Bg _ _ _ _ _); simp only [hall]) | (refine ZR ?_ ?_ <;> intro hb <;> (try simp only [hb]) <;> have hq := hb <;> try simp only [HQ] at hq)) <;> try simp only [Go.AM.SS, Nat.reduceAdd, Nat.reduceMul, Nat.reduceSub, ↓reduceIte, Nat.reduceEqDiff, Nat.reduceLT, Nat.reduceLeDiff, reduceCtorEq, Int.reduceBEq, Int.reduceBNe, Nat.reduceBEq, Int.reduceEq, Int.reduceToNat, Int.reduceLE, Int.reduceLT, Nat.reduceDiv, Int.reduceAdd, Int.reduceSub, Int.reduceMul, Int.reduceNeg, Int.reduceGT, Int.reduceGE, Nat.reduceMod, k108_105, s105.eq_1, s105_eq, s105_nil1, k108_176, s176.eq_1, s176_eq, k108_177, s177.eq_1, s177_eq, ty_3, ty_22, ty_50, List.length_replicate])
 | with_reducible first
 | (refine hX _ _ ?_; clear hX X)
 | (refine ZG ?_; try clear hall all)
 | (refine hK _ _ ?_; clear hK K)
 | refine ZL ?_
 | (refine v_0 _ _ ?_; try clear v_0 V_0)
 | (refine v_1 _ _ ?_; try clear v_1 V_1)
 | (refine v_2 _ _ ?_; try clear v_2 V_2)
    | (with_reducible refine awp_lp (σ := Nat × Nat × List Int) (fun s => (s.1 ≤ a.length ∧ s.2.1 < m ∧ s.2.2.length = a.length) ∧ lim s.2.2 ∧ val (s.2.2.drop s.1) = val (a.drop s.1) / m ∧ s.2.1 = val (a.drop s.1) % m) (fun s => [(0, .rd .u64 a), (1, .v (.int .u64 m)), (6, .ow 176), (7, .v (.int .u64 s.2.1)), (8, .v (.int .i64 ((s.1 : Int) - 1)))]) (fun s => [(176, .ints .u64 s.2.2, false)]) (fun s => s.1) (a.length, 0, List.replicate a.length 0) ?_ ?_ (fun s hs => ?_))
 | ((first | refine qr 7 [4,5] ?_ | refine Zh (a := .seq (.region 3 _ _) _) [6,7] ?_ | refine qr 2 [0,1,6,7] ?_ | refine qr 1 [0,1,6] ?_ | refine qr 0 [0,1] ?_); intro V_0 v_0)
 | ((first | refine qb 1 [0,1,6,7,8] ?_ | refine Zh (a := .seq (.region 4 _ _) _) [0,1,6,7,8] ?_ | refine qr 3 [0,1,6,7,8] ?_); intro V_1 v_1)
 | ((first | refine qr 4 [0,1,6,7,8,16] ?_); intro V_2 v_2)
 | (refine ZM ?_; intro K hK)
 | (refine ZN ?_; intro all hall K hK)
 | (refine ZQ ?_ ?_)
 | (refine Zg ?_; simp only [↓reduceIte, Nat.reduceEqDiff])
 | refine ZS ?_ | refine ZT ?_ | refine ZU ?_ | refine ZV ?_ | refine ZW ?_ | refine ZX ?_ | refine ZY ?_ | refine ZZ ?_ | refine Za ?_ | refine Ze ?_ | refine Zf ?_)
  all_goals try clear v_2 V_2
  all_goals try clear v_1 V_1
  all_goals try clear v_0 V_0
  all_goals (try (rcases s with ⟨i, c, o⟩))
  all_goals (try (obtain ⟨ss, hs⟩ := hs))
  all_goals (try dsimp only at *)
  all_goals (try simp only [inR])
  all_goals (try omega)
  · refine ⟨⟨Nat.le_refl _, by omega, by simp⟩, lim_rep _, ?_, ?_⟩
    · rw [List.drop_of_length_le (by simp), List.drop_length]; simp [val]
    · rw [List.drop_length]; simp [val]
  · exact Ent.refl _ _
  · have h1 := Mg hp.1.1 (i := ((i : Int) - 1).toNat)
    exact ⟨⟨by omega, by omega⟩, h1, by omega, by omega⟩
  · have e : ((i : Int) - 1).toNat = i - 1 := by omega
    rw [e]
    have h1 := Mg hp.1.1 (i := i - 1)
    have h2 := word_step (i := i - 1) hp.1.1 (show 0 < m by omega) (show c < m by omega) (by omega) (show o.length = a.length by omega) (by rw [show i - 1 + 1 = i by omega]; exact hs.2)
    have h3 := word_lt (n := m) (by omega) (show c < m by omega) (show (a.getD (i - 1) 0).toNat < 18446744073709551616 by omega)
    have h4 := Nat.mod_lt (c * 18446744073709551616 + (a.getD (i - 1) 0).toNat) (show 0 < m by omega)
    exact ⟨(i - 1, (c * 18446744073709551616 + (a.getD (i - 1) 0).toNat) % m, o.set (i - 1) (((c * 18446744073709551616 + (a.getD (i - 1) 0).toNat) / m : Nat) : Int)), by (refine Eo [(176, 176)] rfl ?_ ?_ <;> simp only [Me, Sl, AvLe, lk, ↓reduceIte, Nat.reduceEqDiff, Option.isSome_some, and_self, and_true, true_and, reduceCtorEq, List.map_nil, List.map_cons, Option.some.injEq, AV.v.injEq, Value.int.injEq, Value.bool.injEq, AV.rd.injEq, AV.ow.injEq, AV.al.injEq, AV.ref.injEq] <;> omega), ⟨⟨by dsimp only; omega, h4, by simp; omega⟩, lim_set hs.1 (nat_lim h3) _, h2.1, h2.2⟩, by dsimp only; omega⟩
  · exact ⟨hs.1, by omega⟩
  · have h0 : i = 0 := by omega
    subst h0
    have h1 := hs.2
    rw [List.drop_zero, List.drop_zero] at h1
    rw [h1.1, h1.2]
    exact ⟨rfl, rfl⟩
theorem sound_108 : Sound Tryz.prog 108 .body (norm s108) := by
  refine sb Tryz.func108 rfl (by kernel_rfl) G108_ok (by kernel_rfl) fun ds p r hs hp => ?_
  unfold s108 at hs
  split at hs
  · cases hs; exact ⟨Nat.le_of_ble_eq_true (by kernel_rfl), wk108 _ _ hp⟩
  · cases hs
noncomputable def s83 : Cs := fun ds => match ds with
  | [.sl .u64 a, .sl .u64 b] => some ((lim a ∧ a.length ≤ 10000000) ∧ (lim b ∧ b.length ≤ 10000000) ∧ val b ≠ 0, .many [.view .u64 (limbs (val a / val b)), .view .u64 (limbs (val a % val b))])
  | _ => none
theorem s83_eq (a : List Int) (b : List Int) : norm s83 [.sl .u64 a, .sl .u64 b] = s83 [.sl .u64 a, .sl .u64 b] := rfl
theorem s83_nil1  (b : List Int) : norm s83 [.v (.slice none 0 0), .sl .u64 b] = s83 [.sl .u64 [], .sl .u64 b] := rfl
theorem s83_nil2 (a : List Int)  : norm s83 [.sl .u64 a, .v (.slice none 0 0)] = s83 [.sl .u64 a, .sl .u64 []] := rfl
theorem s83_nil3   : norm s83 [.v (.slice none 0 0), .v (.slice none 0 0)] = s83 [.sl .u64 [], .sl .u64 []] := rfl
noncomputable def G83 : Gam := [(39, .body, norm s39), (47, .body, norm s47), (69, .body, norm s69), (86, .body, norm s86), (87, .body, norm s87), (105, .body, norm s105), (108, .body, norm s108), (111, .body, norm s111)]
theorem G83_ok : Gk Tryz.prog G83 := Gc sound_39 (Gc sound_47 (Gc sound_69 (Gc sound_86 (Gc sound_87 (Gc sound_105 (Gc sound_108 (Gc sound_111 Gn)))))))
theorem k83_39 : lk G83 39 = some (.body, norm s39) := rfl
theorem k83_47 : lk G83 47 = some (.body, norm s47) := rfl
theorem k83_69 : lk G83 69 = some (.body, norm s69) := rfl
theorem k83_86 : lk G83 86 = some (.body, norm s86) := rfl
theorem k83_87 : lk G83 87 = some (.body, norm s87) := rfl
theorem k83_105 : lk G83 105 = some (.body, norm s105) := rfl
theorem k83_108 : lk G83 108 = some (.body, norm s108) := rfl
theorem k83_111 : lk G83 111 = some (.body, norm s111) := rfl
theorem wk83 (a : List Int) (b : List Int) (hp : (lim a ∧ a.length ≤ 10000000) ∧ (lim b ∧ b.length ≤ 10000000) ∧ val b ≠ 0) : awp ty G83 (code Tryz.f83) (retP ty Tryz.f83.results.toList (.many [.view .u64 (limbs (val a / val b)), .view .u64 (limbs (val a % val b))])) (entry 0 [.sl .u64 a, .sl .u64 b]) [] := by
  unfold code
  simp only [Tryz.f83, Option.getD_some]
  obtain ⟨la, lb, hy0⟩ := hp
  have za := sz_le a
  have zb := sz_le b
  have ba := lt_pow_of_len la.1 (Nat.le_refl a.length)
  have bb := lt_pow_of_len lb.1 (Nat.le_refl b.length)
  have sb1 : sz b = 1 → val b = (b.getD 0 0).toNat := fun h => by
    have h2 := Ts lb.1
    rw [h] at h2
    rw [← Vl (val b), ← h2]
    exact (Vt b 0).trans (by simp [val])
  have sbp : sz b ≠ 0 := fun h => hy0 ((sz_zero lb.1).1 h)
  have gb := Mg lb.1 (i := 0)
  generalize hx : val a = x at *
  generalize hy : val b = y at *
  have bx : blen x ≤ 64 * a.length := blen_lt.2 ba
  have b_y : blen y ≤ 64 * b.length := blen_lt.2 bb
  have by0 : 1 ≤ blen y := by have := @blen_zero y; omega
  obtain ⟨F, hF⟩ : ∃ F : Nat, blen x - blen y = F := ⟨_, rfl⟩
  have hfar : ∀ h : ¬ (blen x : Int) - (blen y : Int) < 0, (blen x : Int) - (blen y : Int) = (F : Int) := fun h => by omega
  have hmT : (((F / 64 : Nat) : Int) + 1).toNat = F / 64 + 1 := by omega
  have hsub : ∀ k : Nat, ((k : Int) - 1 ≥ 0) = (1 ≤ k) := fun k => by simp only [ge_iff_le, eq_iff_iff]; omega
  have hdq : ∀ m : Nat, (m : Int).tdiv 64 = ((m / 64 : Nat) : Int) := fun m => by rw [Int.tdiv_eq_ediv_of_nonneg (by omega)]; omega
  have hdm : ∀ m : Nat, (m : Int).tmod 64 = ((m % 64 : Nat) : Int) := fun m => by rw [Int.tmod_eq_emod_of_nonneg (by omega)]; omega
  have hp64 : (2 : Nat) ^ (1 : Int).toNat = 2 := rfl
  have h64 : ∀ m : Nat, min (m % 64) 64 = m % 64 := fun m => by omega
  all_goals repeat' (first
 | ((with_reducible first | (refine ZA ?_; intro X hX) | (show awp _ _ _ _ (Kp _ _) _) | refine ZD ?_ | refine ZE ?_ | refine ZF ?_ | ((show Bg _ _ _ _ _); simp only [hall]) | (refine ZR ?_ ?_ <;> intro hb <;> (try simp only [hb]) <;> have hq := hb <;> try simp only [HQ] at hq)) <;> try simp only [Go.AM.SS, Nat.reduceAdd, Nat.reduceMul, Nat.reduceSub, ↓reduceIte, Nat.reduceEqDiff, Nat.reduceLT, Nat.reduceLeDiff, reduceCtorEq, Int.reduceBEq, Int.reduceBNe, Nat.reduceBEq, Int.reduceEq, Int.reduceToNat, Int.reduceLE, Int.reduceLT, Nat.reduceDiv, Int.reduceAdd, Int.reduceSub, Int.reduceMul, Int.reduceNeg, Int.reduceGT, Int.reduceGE, Nat.reduceMod, k83_39, s39.eq_1, s39_eq, s39_nil1, k83_47, s47.eq_1, s47_eq, s47_nil1, k83_69, s69.eq_1, s69_eq, s69_nil1, k83_86, s86.eq_1, s86_eq, s86_nil1, s86_nil2, s86_nil3, k83_87, s87.eq_1, s87_eq, s87_nil1, s87_nil2, s87_nil3, k83_105, s105.eq_1, s105_eq, s105_nil1, k83_108, s108.eq_1, s108_eq, s108_nil1, k83_111, s111.eq_1, s111_eq, s111_nil1, ty_3, ty_22, ty_50, ty_75, toInts, hx, hy, Vl, List.length_replicate, hfar, hdq, hdm, hmT, hsub, IntKind.bits, hp64, h64])
 | with_reducible first
 | (refine hX _ _ ?_; clear hX X)
 | (refine ZG ?_; try clear hall all)
 | (refine hK _ _ ?_; clear hK K)
 | refine ZL ?_
 | (refine v_0 _ _ ?_; try clear v_0 V_0)
 | (refine v_1 _ _ ?_; try clear v_1 V_1)
 | (refine v_2 _ _ ?_; try clear v_2 V_2)
 | (refine v_3 _ _ ?_; try clear v_3 V_3)
    | (with_reducible refine awp_lp (c := .seq (.seq (.region 10 _ _) _) _) (σ := Nat × Nat × List Int) (fun s => s.1 ≤ F + 1 ∧ s.2.2.length = F / 64 + 1 ∧ lim s.2.2 ∧ OvI x y s.1 s.2.1 (val s.2.2)) (fun s => [(7, .rd .u64 (limbs s.2.1)), (8, .ow 560), (9, .rd .u64 (limbs (y * 2 ^ s.1 / 2))), (10, .v (.int .i64 ((s.1 : Int) - 1)))]) (fun s => [(560, .ints .u64 s.2.2, false)]) (fun s => s.1) (F + 1, x, List.replicate (F / 64 + 1) 0) ?_ ?_ (fun s hs => ?_))
 | ((first | refine qr 16 [4,5] ?_ | refine Zh (a := .seq (.region 9 _ _) _) [7,8] ?_ | refine qr 8 [6,7,8,9] ?_ | refine qr 7 [1,6,7,8] ?_ | refine Zh (a := .seq (.region 5 _ _) _) [1,6,7] ?_ | refine qr 4 [1,6,7] ?_ | refine qr 3 [0,1,6] ?_ | refine Zh (a := .seq (.region 1 _ _) _) [0,1] ?_ | refine qr 0 [0,1] ?_); intro V_0 v_0)
 | ((first | refine qb 1 [7,8,9,10] ?_ | refine Zh (a := .seq (.region 10 _ _) _) [7,8,9,10] ?_ | refine qr 9 [7,8,9,10] ?_ | refine qr 6 [4,5] ?_ | refine qr 5 [1,6,7,29] ?_ | refine qr 2 [4,5] ?_ | refine qr 1 [0,1,13] ?_); intro V_1 v_1)
 | ((first | refine Zh (a := .seq (.region 12 _ _) _) [7,8,9,10] ?_ | refine qr 10 [7,8,9,10,41] ?_); intro V_2 v_2)
 | ((first | refine qr 13 [7,8,9,10] ?_ | refine qr 12 [7,8,9,10,47] ?_); intro V_3 v_3)
 | (refine ZM ?_; intro K hK)
 | (refine ZN ?_; intro all hall K hK)
 | (refine ZQ ?_ ?_)
 | (refine Zg ?_; simp only [↓reduceIte, Nat.reduceEqDiff])
 | refine ZS ?_ | refine ZT ?_ | refine ZU ?_ | refine ZV ?_ | refine ZW ?_ | refine ZX ?_ | refine ZY ?_ | refine ZZ ?_ | refine Za ?_ | refine Ze ?_ | refine Zf ?_)
  all_goals try clear v_3 V_3
  all_goals try clear v_2 V_2
  all_goals try clear v_1 V_1
  all_goals try clear v_0 V_0
  all_goals clear hdq hdm h64 hsub hp64
  all_goals (try simp only [inR])
  all_goals (try (rcases s with ⟨k, r, q⟩))
  all_goals (try dsimp only at *)
  · omega
  · omega
  · exact ⟨⟨la.1, by omega⟩, by have := sb1 (by omega); omega, gb.2⟩
  · rw [sb1 (by omega)]; exact ⟨rfl, rfl⟩
  · exact ⟨la.1, by omega⟩
  · exact ⟨lb.1, by omega⟩
  · omega
  · exact ⟨la.1, by omega⟩
  · have h1 : x < y := Nat.lt_of_not_le fun h => by have := blen_mono h; omega
    rw [Nat.div_eq_of_lt h1, Nat.mod_eq_of_lt h1]; exact ⟨rfl, rfl⟩
  · rw [hfar (by omega), Int.tdiv_eq_ediv_of_nonneg (by omega)]; omega
  · rw [hfar (by omega), Int.tdiv_eq_ediv_of_nonneg (by omega)]; omega
  · rw [hfar (by omega), Int.tdiv_eq_ediv_of_nonneg (by omega)]; omega
  · exact ⟨⟨lb.1, by omega⟩, by omega, by omega⟩
  · refine ⟨Nat.le_refl _, List.length_replicate, lim_rep _, ?_⟩
    rw [val_rep, ← hF]
    exact ov_init (by omega) (by omega)
  · rw [hfar (by omega), half_pow, Int.toNat_natCast]
    have e1 : ((F : Int).tdiv 64 + 1).toNat = F / 64 + 1 := by rw [Int.tdiv_eq_ediv_of_nonneg (by omega)]; omega
    have e2 : (((F + 1 : Nat) : Int) - 1) = (F : Int) := by omega
    rw [e1, e2]
    (refine Eo [(560, 560)] rfl ?_ ?_ <;> simp only [Me, Sl, AvLe, lk, ↓reduceIte, Nat.reduceEqDiff, Option.isSome_some, List.contains_cons, List.contains_nil, Bool.or_false, Nat.reduceBEq, and_self, and_true, true_and, reduceCtorEq, List.map_nil, List.map_cons, Option.some.injEq, AV.v.injEq, Value.int.injEq, Value.bool.injEq, AV.rd.injEq, AV.ow.injEq, AV.al.injEq, AV.ref.injEq] <;> (first | omega | (refine ⟨?_, ?_, ?_⟩ <;> omega)))
  all_goals (have hlr : (limbs r).length ≤ (limbs x).length := len_mono (by have := hs.2.2.2.e; omega))
  all_goals (have hlx : (limbs x).length = (blen x + 63) / 64 := len_limbs x)
  all_goals (have hld : (limbs (y * 2 ^ k / 2)).length ≤ (limbs (y * 2 ^ k)).length := len_mono (Nat.div_le_self _ _))
  all_goals (rw [len_pow hy0] at hld)
  · exact ⟨⟨Ml _, by omega⟩, Ml _, by omega⟩
  · exact ⟨⟨⟨Ml _, by omega⟩, Ml _, by omega⟩, by
      rcases Nat.lt_or_ge r (y * 2 ^ k / 2) with h | h
      · rw [cmpI_lt h] at hq; omega
      · exact h⟩
  · rw [Int.tdiv_eq_ediv_of_nonneg (by omega)]; omega
  · rw [Int.tdiv_eq_ediv_of_nonneg (by omega)]; omega
  · rw [Int.tdiv_eq_ediv_of_nonneg (by omega)]; omega
  · rw [Int.tdiv_eq_ediv_of_nonneg (by omega)]; omega
  · omega
  · rw [Int.tdiv_eq_ediv_of_nonneg (by omega)]; omega
  · rw [Int.tdiv_eq_ediv_of_nonneg (by omega)]; omega
  · exact ⟨Ml _, by omega⟩
  · omega
  · obtain ⟨j, rfl⟩ : ∃ j, k = j + 1 := ⟨k - 1, by omega⟩
    have e0 : ((j + 1 : Nat) : Int) - 1 = (j : Int) := by omega
    have e1 : (j : Int).tdiv 64 = ((j / 64 : Nat) : Int) := by rw [Int.tdiv_eq_ediv_of_nonneg (by omega)]; omega
    have e2 : (j : Int).tmod 64 = ((j % 64 : Nat) : Int) := by rw [Int.tmod_eq_emod_of_nonneg (by omega)]; omega
    have e3 : min (((j % 64 : Nat) : Int) % 18446744073709551616).toNat 64 = j % 64 := by omega
    rw [half_pow] at hq ⊢
    rw [e0, e1, e2, e3, Int.toNat_natCast, pow_int (by omega)]
    have hr : y * 2 ^ j ≤ r := by
      rcases Nat.lt_or_ge r (y * 2 ^ j) with h | h
      · rw [cmpI_lt h] at hq; omega
      · exact h
    obtain ⟨b1, b2, b3⟩ := set_bit hs.2.2.1 (k := j) (by rw [hs.2.1]; omega) hs.2.2.2.m
    rw [b1]
    refine ⟨(j, r - y * 2 ^ j, q.set (j / 64) (((q.getD (j / 64) 0).toNat + 2 ^ (j % 64) : Nat) : Int)), by (refine Eo [(560, 560)] rfl ?_ ?_ <;> simp only [Me, Sl, AvLe, lk, ↓reduceIte, Nat.reduceEqDiff, Option.isSome_some, List.contains_cons, List.contains_nil, Bool.or_false, Nat.reduceBEq, and_self, and_true, true_and, reduceCtorEq, List.map_nil, List.map_cons, Option.some.injEq, AV.v.injEq, Value.int.injEq, Value.bool.injEq, AV.rd.injEq, AV.ow.injEq, AV.al.injEq, AV.ref.injEq] <;> (first | omega | (refine ⟨?_, ?_, ?_⟩ <;> omega))), ⟨?_, ?_, ?_, ?_⟩, ?_⟩
    · dsimp only; omega
    · rw [List.length_set]; exact hs.2.1
    · exact lim_set hs.2.2.1 (nat_lim b2) _
    · dsimp only
      rw [b3]
      exact ov_yes hs.2.2.2 hr
    · dsimp only; omega
  · exact ⟨Ml _, by omega⟩
  · omega
  · obtain ⟨j, rfl⟩ : ∃ j, k = j + 1 := ⟨k - 1, by omega⟩
    have e0 : ((j + 1 : Nat) : Int) - 1 = (j : Int) := by omega
    rw [half_pow] at hq ⊢
    rw [e0]
    refine ⟨(j, r, q), by (refine Eo [(560, 560)] rfl ?_ ?_ <;> simp only [Me, Sl, AvLe, lk, ↓reduceIte, Nat.reduceEqDiff, Option.isSome_some, List.contains_cons, List.contains_nil, Bool.or_false, Nat.reduceBEq, and_self, and_true, true_and, reduceCtorEq, List.map_nil, List.map_cons, Option.some.injEq, AV.v.injEq, Value.int.injEq, Value.bool.injEq, AV.rd.injEq, AV.ow.injEq, AV.al.injEq, AV.ref.injEq] <;> (first | omega | (refine ⟨?_, ?_, ?_⟩ <;> omega))), ⟨?_, hs.2.1, hs.2.2.1, ov_no hs.2.2.2 (cmpI_neg.1 hq)⟩, ?_⟩
    · dsimp only; omega
    · dsimp only; omega
  · exact ⟨hs.2.2.1, by omega⟩
  · have h0 : k = 0 := by omega
    subst h0
    have h1 := ov_fin hs.2.2.2
    rw [h1.1, h1.2]
    exact ⟨rfl, rfl⟩
theorem sound_83 : Sound Tryz.prog 83 .body (norm s83) := by
  refine sb Tryz.func83 rfl (by kernel_rfl) G83_ok (by kernel_rfl) fun ds p r hs hp => ?_
  unfold s83 at hs
  split at hs
  · cases hs; exact ⟨Nat.le_of_ble_eq_true (by kernel_rfl), wk83 _ _ hp⟩
  · cases hs
noncomputable def s217 : Cs := fun ds => match ds with
  | [.sl .u64 a] => some (lim a, .one (.v (.bool (val a % 2 == 1))))
  | _ => none
theorem s217_eq (a : List Int) : norm s217 [.sl .u64 a] = s217 [.sl .u64 a] := rfl
theorem s217_nil1  : norm s217 [.v (.slice none 0 0)] = s217 [.sl .u64 []] := rfl
noncomputable def G217 : Gam := []
theorem G217_ok : Gk Tryz.prog G217 := Gn
theorem wk217 (a : List Int) (hp : lim a) : awp ty G217 (code Tryz.f217) (retP ty Tryz.f217.results.toList (.one (.v (.bool (val a % 2 == 1))))) (entry 0 [.sl .u64 a]) [] := by
  unfold code
  simp only [Tryz.f217, Option.getD_some]
  have hO := odd_rem hp
  all_goals repeat' (first
 | ((with_reducible first | (refine ZA ?_; intro X hX) | (show awp _ _ _ _ (Kp _ _) _) | refine ZD ?_ | refine ZE ?_ | refine ZF ?_ | ((show Bg _ _ _ _ _); simp only [hall]) | (refine ZR ?_ ?_ <;> intro hb <;> (try simp only [hb]) <;> have hq := hb <;> try simp only [HQ] at hq)) <;> try simp only [Go.AM.SS, Nat.reduceAdd, Nat.reduceMul, Nat.reduceSub, ↓reduceIte, Nat.reduceEqDiff, Nat.reduceLT, Nat.reduceLeDiff, reduceCtorEq, Int.reduceBEq, Int.reduceBNe, Nat.reduceBEq, Int.reduceEq, Int.reduceToNat, Int.reduceLE, Int.reduceLT, Nat.reduceDiv, Int.reduceAdd, Int.reduceSub, Int.reduceMul, Int.reduceNeg, Int.reduceGT, Int.reduceGE, Nat.reduceMod, ty_3, ty_22, ty_50, hO])
 | with_reducible first
 | (refine hX _ _ ?_; clear hX X)
 | (refine ZG ?_; try clear hall all)
 | (refine hK _ _ ?_; clear hK K)
 | refine ZL ?_
 | (refine v_0 _ _ ?_; try clear v_0 V_0)
 | ((first | refine qr 1 [2] ?_ | refine qr 0 [0] ?_); intro V_0 v_0)
 | (refine ZM ?_; intro K hK)
 | (refine ZN ?_; intro all hall K hK)
 | (refine ZQ ?_ ?_)
 | refine ZT ?_ | refine ZU ?_ | refine ZW ?_)
  all_goals try clear v_0 V_0
  all_goals (try simp only [inR])
  all_goals first
    | omega
    | (have h0 : a = [] := List.length_eq_zero_iff.1 (by omega)
       subst h0; rfl)
    | skip
theorem sound_217 : Sound Tryz.prog 217 .body (norm s217) := by
  refine sb Tryz.func217 rfl (by kernel_rfl) G217_ok (by kernel_rfl) fun ds p r hs hp => ?_
  unfold s217 at hs
  split at hs
  · cases hs; exact ⟨Nat.le_of_ble_eq_true (by kernel_rfl), wk217 _ hp⟩
  · cases hs
noncomputable def s173 : Cs := fun ds => match ds with
  | [.v (.int .i64 d), .v (.bool s), .sl .u64 a, .sl .u64 b] => some ((lim a ∧ limbs (val a) = a ∧ a.length ≤ 100000) ∧ (lim b ∧ limbs (val b) = b ∧ b.length ≤ 100000) ∧ val b ≠ 0, .many [.view .u64 (limbs (divS d s (val a) (val b)).1), .v (.bool (divS d s (val a) (val b)).2)])
  | _ => none
theorem s173_eq (d : Int) (s : Bool) (a : List Int) (b : List Int) : norm s173 [.v (.int .i64 d), .v (.bool s), .sl .u64 a, .sl .u64 b] = s173 [.v (.int .i64 d), .v (.bool s), .sl .u64 a, .sl .u64 b] := rfl
theorem s173_nil1 (d : Int) (s : Bool)  (b : List Int) : norm s173 [.v (.int .i64 d), .v (.bool s), .v (.slice none 0 0), .sl .u64 b] = s173 [.v (.int .i64 d), .v (.bool s), .sl .u64 [], .sl .u64 b] := rfl
theorem s173_nil2 (d : Int) (s : Bool) (a : List Int)  : norm s173 [.v (.int .i64 d), .v (.bool s), .sl .u64 a, .v (.slice none 0 0)] = s173 [.v (.int .i64 d), .v (.bool s), .sl .u64 a, .sl .u64 []] := rfl
theorem s173_nil3 (d : Int) (s : Bool)   : norm s173 [.v (.int .i64 d), .v (.bool s), .v (.slice none 0 0), .v (.slice none 0 0)] = s173 [.v (.int .i64 d), .v (.bool s), .sl .u64 [], .sl .u64 []] := rfl
noncomputable def G173 : Gam := [(39, .body, norm s39), (60, .body, norm s60), (83, .body, norm s83), (87, .body, norm s87), (217, .body, norm s217)]
theorem G173_ok : Gk Tryz.prog G173 := Gc sound_39 (Gc sound_60 (Gc sound_83 (Gc sound_87 (Gc sound_217 Gn))))
theorem k173_39 : lk G173 39 = some (.body, norm s39) := rfl
theorem k173_60 : lk G173 60 = some (.body, norm s60) := rfl
theorem k173_83 : lk G173 83 = some (.body, norm s83) := rfl
theorem k173_87 : lk G173 87 = some (.body, norm s87) := rfl
theorem k173_217 : lk G173 217 = some (.body, norm s217) := rfl
theorem wk173 (d : Int) (s : Bool) (a : List Int) (b : List Int) (hp : (lim a ∧ limbs (val a) = a ∧ a.length ≤ 100000) ∧ (lim b ∧ limbs (val b) = b ∧ b.length ≤ 100000) ∧ val b ≠ 0) : awp ty G173 (code Tryz.f173) (retP ty Tryz.f173.results.toList (.many [.view .u64 (limbs (divS d s (val a) (val b)).1), .v (.bool (divS d s (val a) (val b)).2)])) (entry 0 [.v (.int .i64 d), .v (.bool s), .sl .u64 a, .sl .u64 b]) [] := by
  unfold code
  simp only [Tryz.f173, Option.getD_some]
  obtain ⟨la, lb, hy0⟩ := hp
  generalize hx : val a = x at *
  generalize hy : val b = y at *
  have hml := Nat.mod_lt x (Nat.pos_of_ne_zero hy0)
  obtain ⟨H, hH'⟩ : ∃ H, cmpI (x % y) (y - x % y) = H := ⟨_, rfl⟩
  have hH : cmpI (x % y * 2) y = H := (cmp_half (by omega)).trans hH'
  have l1 := len_mono (Nat.div_le_self x y)
  have lx := congrArg List.length la.2.1
  have ly := congrArg List.length lb.2.1
  have l2 := len_mono (Nat.le_of_lt hml)
  have l3 : (limbs (x % y * 2)).length ≤ (limbs (y * 2 ^ 1)).length := len_mono (Nat.mul_le_mul_right _ (Nat.le_of_lt hml))
  have l4 := len_shift (a := y) (s := 1) (by omega)
  have hr : (limbs (x % y)).length ≠ 0 → ¬ x % y = 0 := fun h h0 => h (len_zero.2 h0)
  all_goals repeat' (first
 | ((with_reducible first | (refine ZA ?_; intro X hX) | (show awp _ _ _ _ (Kp _ _) _) | refine ZD ?_ | refine ZE ?_ | refine ZF ?_ | ((show Bg _ _ _ _ _); simp only [hall]) | (refine ZR ?_ ?_ <;> intro hb <;> (try simp only [hb]) <;> have hq := hb <;> try simp only [HQ] at hq)) <;> try simp only [Go.AM.SS, Nat.reduceAdd, Nat.reduceMul, Nat.reduceSub, ↓reduceIte, Nat.reduceEqDiff, Nat.reduceLT, Nat.reduceLeDiff, reduceCtorEq, Int.reduceBEq, Int.reduceBNe, Nat.reduceBEq, Int.reduceEq, Int.reduceToNat, Int.reduceLE, Int.reduceLT, Nat.reduceDiv, Int.reduceAdd, Int.reduceSub, Int.reduceMul, Int.reduceNeg, Int.reduceGT, Int.reduceGE, Nat.reduceMod, k173_39, s39.eq_1, s39_eq, s39_nil1, k173_60, s60.eq_1, s60_eq, s60_nil1, s60_nil2, s60_nil3, k173_83, s83.eq_1, s83_eq, s83_nil1, s83_nil2, s83_nil3, k173_87, s87.eq_1, s87_eq, s87_nil1, s87_nil2, s87_nil3, k173_217, s217.eq_1, s217_eq, s217_nil1, ty_3, ty_4, ty_22, ty_50, toInts, hx, hy, Vl, Int.toNat_one, Nat.pow_one, hH, sz_one])
 | with_reducible first
 | (refine hX _ _ ?_; clear hX X)
 | (refine ZG ?_; try clear hall all)
 | (refine hK _ _ ?_; clear hK K)
 | refine ZL ?_
 | (refine v_0 _ _ ?_; try clear v_0 V_0)
 | (refine v_1 _ _ ?_; try clear v_1 V_1)
 | ((first | refine qr 17 [8,9] ?_ | refine Zh (a := .seq (.region 15 _ _) _) [10] ?_ | refine Zh (a := .seq (.region 6 _ _) _) [10,13] ?_ | refine qr 5 [0,1,10,12,13] ?_ | refine qr 4 [0,1,10,12] ?_ | refine Zh (a := .seq (.region 2 _ _) _) [0,1,3,10,11] ?_ | refine qr 1 [0,1,3,10,11] ?_ | refine qr 0 [0,1,2,3] ?_); intro V_0 v_0)
 | ((first | refine qr 15 [10,52] ?_ | refine qr 13 [1,10,13,49] ?_ | refine qr 11 [1,10,13,28,45] ?_ | refine qr 9 [1,10,12,13,28,41] ?_ | refine qr 7 [1,10,12,13,28,29] ?_ | refine qr 6 [1,10,12,13,28] ?_ | refine qr 3 [8,9] ?_ | refine qr 2 [0,1,3,10,11,22] ?_); intro V_1 v_1)
 | (refine ZM ?_; intro K hK)
 | (refine ZN ?_; intro all hall K hK)
 | (refine ZQ ?_ ?_)
 | (refine Zg ?_; simp only [↓reduceIte, Nat.reduceEqDiff])
 | refine ZS ?_ | refine ZT ?_ | refine ZU ?_ | refine ZV ?_ | refine ZW ?_ | refine ZX ?_ | refine Ze ?_ | refine Zf ?_)
  all_goals try clear v_1 V_1
  all_goals try clear v_0 V_0
  all_goals (try simp only [inR])
  all_goals first
    | omega
    | exact ⟨⟨la.1, by omega⟩, ⟨lb.1, by omega⟩, hy0⟩
    | (rw [divS_ex (len_zero.1 (by omega))]; exact ⟨rfl, rfl⟩)
    | exact ⟨Ml _, by omega⟩
    | exact ⟨⟨Ml _, by omega⟩, lb.1, by omega⟩
    | exact Ml _
    | exact ⟨⟨Ml _, by omega⟩, lim_one ⟨by omega, by omega⟩⟩
    | (rw [divS_up (hr (by omega)) (by rw [hH']; unfold upS; simp_all)]; exact ⟨rfl, rfl⟩)
    | (rw [divS_dn (hr (by omega)) (by rw [hH']; unfold upS; simp_all)]; exact ⟨rfl, rfl⟩)
    | skip
theorem sound_173 : Sound Tryz.prog 173 .body (norm s173) := by
  refine sb Tryz.func173 rfl (by kernel_rfl) G173_ok (by kernel_rfl) fun ds p r hs hp => ?_
  unfold s173 at hs
  split at hs
  · cases hs; exact ⟨Nat.le_of_ble_eq_true (by kernel_rfl), wk173 _ _ _ _ hp⟩
  · cases hs
noncomputable def s174 : Cs := fun ds => match ds with
  | [.v (.int .i64 n), .v (.bool s)] => some (1 ≤ n ∧ n ≤ 6, .many [.v (.agg #[.int .u64 (w4 (packS n 1 s false (2 ^ (fp n).toNat - 1) (fe n + 1 - fp n)) 0), .int .u64 (w4 (packS n 1 s false (2 ^ (fp n).toNat - 1) (fe n + 1 - fp n)) 1), .int .u64 (w4 (packS n 1 s false (2 ^ (fp n).toNat - 1) (fe n + 1 - fp n)) 2), .int .u64 (w4 (packS n 1 s false (2 ^ (fp n).toNat - 1) (fe n + 1 - fp n)) 3)]), .v (.int .i64 0)])
  | _ => none
theorem s174_eq (n : Int) (s : Bool) : norm s174 [.v (.int .i64 n), .v (.bool s)] = s174 [.v (.int .i64 n), .v (.bool s)] := rfl
noncomputable def G174 : Gam := [(30, .body, norm s30), (41, .body, norm s41), (44, .body, norm s44), (46, .body, norm s46), (48, .body, norm s48), (86, .body, norm s86)]
theorem G174_ok : Gk Tryz.prog G174 := Gc sound_30 (Gc sound_41 (Gc sound_44 (Gc sound_46 (Gc sound_48 (Gc sound_86 Gn)))))
theorem k174_30 : lk G174 30 = some (.body, norm s30) := rfl
theorem k174_41 : lk G174 41 = some (.body, norm s41) := rfl
theorem k174_44 : lk G174 44 = some (.body, norm s44) := rfl
theorem k174_46 : lk G174 46 = some (.body, norm s46) := rfl
theorem k174_48 : lk G174 48 = some (.body, norm s48) := rfl
theorem k174_86 : lk G174 86 = some (.body, norm s86) := rfl
theorem wk174 (n : Int) (s : Bool) (hp : 1 ≤ n ∧ n ≤ 6) : awp ty G174 (code Tryz.f174) (retP ty Tryz.f174.results.toList (.many [.v (.agg #[.int .u64 (w4 (packS n 1 s false (2 ^ (fp n).toNat - 1) (fe n + 1 - fp n)) 0), .int .u64 (w4 (packS n 1 s false (2 ^ (fp n).toNat - 1) (fe n + 1 - fp n)) 1), .int .u64 (w4 (packS n 1 s false (2 ^ (fp n).toNat - 1) (fe n + 1 - fp n)) 2), .int .u64 (w4 (packS n 1 s false (2 ^ (fp n).toNat - 1) (fe n + 1 - fp n)) 3)]), .v (.int .i64 0)])) (entry 0 [.v (.int .i64 n), .v (.bool s)]) [] := by
  unfold code
  simp only [Tryz.f174, Option.getD_some]
  obtain ⟨F1, F2, F3, F4, F5, F6, F7, F8, F9, F10, F11⟩ := bfmt hp
  have hI := infoV_in (n := n) (by omega)
  have gk : (decide (n ≥ 1) && decide (n ≤ 6)) = true := by rw [decide_eq_true (by omega : n ≥ 1), decide_eq_true (by omega : n ≤ 6)]; rfl
  have p2 : 2 ^ (fp n).toNat ≤ 2 ^ 241 := Nat.pow_le_pow_right (by omega) (by omega)
  have p3 : (2 : Nat) ^ 241 < 2 ^ 256 := by decide
  have p1 := Nat.two_pow_pos (fp n).toNat
  have hM := V4_w4 (n := 2 ^ (fp n).toNat - 1) (by omega)
  have hbl := blen_ones (fp n).toNat
  have i2 : (2 : Int).toNat = 2 := rfl
  all_goals repeat' (first
 | ((with_reducible first | (refine ZA ?_; intro X hX) | (refine ZB ?_; intro X hX) | (show awp _ _ _ _ (Kp _ _) _) | (refine hX _ _ _ _ ?_; clear hX X) | (refine ZC ?_; intro X hX) | refine ZD ?_ | refine ZE ?_ | refine ZF ?_ | ((show Bg _ _ _ _ _); simp only [hall]) | (refine ZR ?_ ?_ <;> intro hb <;> (try simp only [hb]) <;> have hq := hb <;> try simp only [HQ] at hq)) <;> try simp only [Go.AM.SS, Nat.reduceAdd, Nat.reduceMul, Nat.reduceSub, ↓reduceIte, Nat.reduceEqDiff, Nat.reduceLT, Nat.reduceLeDiff, reduceCtorEq, Int.reduceBEq, Int.reduceBNe, Nat.reduceBEq, Int.reduceEq, Int.reduceToNat, Int.reduceLE, Int.reduceLT, Nat.reduceDiv, Int.reduceAdd, Int.reduceSub, Int.reduceMul, Int.reduceNeg, Int.reduceGT, Int.reduceGE, Nat.reduceMod, k174_30, s30.eq_1, s30_eq, k174_41, s41.eq_1, s41_eq, k174_44, s44.eq_1, s44_eq, k174_46, s46.eq_1, s46_eq, k174_48, s48.eq_1, s48_eq, s48_nil1, k174_86, s86.eq_1, s86_eq, s86_nil1, s86_nil2, s86_nil3, ty_3, ty_4, ty_9, ty_22, ty_24, ty_33, ty_50, ty_62, hI, gk, infoT, toInts, Vl, sz_one, Int.toNat_one, limbs_getD, hM, i2])
 | with_reducible first
 | (refine hX _ _ ?_; clear hX X)
 | (refine ZI ?_; try clear hall all)
 | (refine ZJ ?_; kernel_rfl)
 | ((show clashK _ _ _ = true); kernel_rfl)
 | (refine ZG ?_; try clear hall all)
 | (refine ZH ?_; try clear hall all)
 | (refine hK _ _ ?_; clear hK K)
 | refine ZL ?_
 | (refine v_0 _ _ ?_; try clear v_0 V_0)
 | (refine v_1 _ _ ?_; try clear v_1 V_1)
 | ((first | refine qr 4 [4,5] ?_ | refine qr 3 [0,1,4,6] ?_ | refine Zh (a := .seq (.region 1 _ _) _) [0,1,4] ?_ | refine qr 0 [0,1,4] ?_); intro V_0 v_0)
 | ((first | refine qr 2 [4,5] ?_ | refine qr 1 [0,1,4,10] ?_); intro V_1 v_1)
 | (refine ZM ?_; intro K hK)
 | (refine ZN ?_; intro all hall K hK)
 | (refine Da (id := 4) ?_ ?_; kernel_rfl; intro all hall K hK)
 | (refine ZO ?_ ?_; kernel_rfl; intro all hall K hK)
 | (refine ZQ ?_ ?_)
 | (refine ZK ?_; kernel_rfl)
 | refine ZT ?_ | refine ZU ?_ | refine ZW ?_)
  all_goals try clear v_1 V_1
  all_goals try clear v_0 V_0
  all_goals clear hM
  all_goals (try simp only [inR])
  all_goals first
    | omega
    | exact ⟨⟨⟨Ml _, Nat.le_trans (len4 (by omega)) (by omega)⟩, lim_one ⟨by omega, by omega⟩⟩, p1⟩
    | exact ⟨hp, ⟨Wl _ _, Wl _ _, Wl _ _, Wl _ _⟩, .inl ⟨rfl, rfl, by omega, by omega, .inl (by omega)⟩⟩
    | skip
theorem sound_174 : Sound Tryz.prog 174 .body (norm s174) := by
  refine sb Tryz.func174 rfl (by kernel_rfl) G174_ok (by kernel_rfl) fun ds p r hs hp => ?_
  unfold s174 at hs
  split at hs
  · cases hs; exact ⟨Nat.le_of_ble_eq_true (by kernel_rfl), wk174 _ _ hp⟩
  · cases hs
noncomputable def s175 : Cs := fun ds => match ds with
  | [.v (.int .i64 d), .v (.bool s)] => some (0 ≤ d ∧ d ≤ 4, .one (.v (.bool (infS d s))))
  | _ => none
theorem s175_eq (d : Int) (s : Bool) : norm s175 [.v (.int .i64 d), .v (.bool s)] = s175 [.v (.int .i64 d), .v (.bool s)] := rfl
noncomputable def G175 : Gam := []
theorem G175_ok : Gk Tryz.prog G175 := Gn
theorem wk175 (d : Int) (s : Bool) (hp : 0 ≤ d ∧ d ≤ 4) : awp ty G175 (code Tryz.f175) (retP ty Tryz.f175.results.toList (.one (.v (.bool (infS d s))))) (entry 0 [.v (.int .i64 d), .v (.bool s)]) [] := by
  unfold code
  simp only [Tryz.f175, Option.getD_some]
  rw [← far_inf hp]
  all_goals repeat' (first
 | ((with_reducible first | (refine ZA ?_; intro X hX) | (show awp _ _ _ _ (Kp _ _) _) | refine ZD ?_ | refine ZE ?_ | refine ZF ?_ | ((show Bg _ _ _ _ _); simp only [hall]) | (refine ZR ?_ ?_ <;> intro hb <;> (try simp only [hb]) <;> have hq := hb <;> try simp only [HQ] at hq)) <;> try simp only [Go.AM.SS, Nat.reduceAdd, Nat.reduceMul, Nat.reduceSub, ↓reduceIte, Nat.reduceEqDiff, Nat.reduceLT, Nat.reduceLeDiff, reduceCtorEq, Int.reduceBEq, Int.reduceBNe, Nat.reduceBEq, Int.reduceEq, Int.reduceToNat, Int.reduceLE, Int.reduceLT, Nat.reduceDiv, Int.reduceAdd, Int.reduceSub, Int.reduceMul, Int.reduceNeg, Int.reduceGT, Int.reduceGE, Nat.reduceMod, ty_3, ty_4])
 | with_reducible first
 | (refine hX _ _ ?_; clear hX X)
 | (refine ZG ?_; try clear hall all)
 | (refine hK _ _ ?_; clear hK K)
 | refine ZL ?_
 | (refine v_0 _ _ ?_; try clear v_0 V_0)
 | (refine v_1 _ _ ?_; try clear v_1 V_1)
 | ((first | refine qr 8 [4] ?_ | refine Zh (a := .seq (.region 1 _ _) _) [] ?_ | refine qr 0 [0,1] ?_); intro V_0 v_0)
 | ((first | refine qr 3 [4] ?_ | refine qr 5 [4] ?_ | refine qr 7 [4] ?_ | refine qr 6 [1,12] ?_ | refine qr 4 [1,5,8] ?_ | refine qr 2 [1,5,6] ?_ | refine qr 1 [1,5] ?_); intro V_1 v_1)
 | (refine ZM ?_; intro K hK)
 | (refine ZN ?_; intro all hall K hK)
 | (refine ZQ ?_ ?_)
 | (refine Zg ?_; simp only [↓reduceIte, Nat.reduceEqDiff])
 | refine ZS ?_ | refine ZT ?_ | refine ZU ?_ | refine ZV ?_ | refine ZW ?_ | refine ZX ?_ | refine Ze ?_ | refine Zf ?_)
  all_goals try clear v_1 V_1
  all_goals try clear v_0 V_0
  all_goals first
    | omega
    | (rw [if_pos hq]; done)
    | (rw [if_neg (by omega), if_pos hq]; done)
    | (rw [if_neg (by omega), if_neg (by omega), if_pos hq]; done)
    | (rw [if_neg (by omega), if_neg (by omega), if_neg (by omega)]; done)
    | skip
theorem sound_175 : Sound Tryz.prog 175 .body (norm s175) := by
  refine sb Tryz.func175 rfl (by kernel_rfl) G175_ok (by kernel_rfl) fun ds p r hs hp => ?_
  unfold s175 at hs
  split at hs
  · cases hs; exact ⟨Nat.le_of_ble_eq_true (by kernel_rfl), wk175 _ _ hp⟩
  · cases hs
end Go.Proofs.AMT
