/- Part of the proof: own text. -/
import Derived.Test.YthdbkmpkebdliaaGreatDoorKA8
import Derived.Test.YthdbkmpkebdliaaGreatDoorKA9
set_option linter.all false
set_option maxHeartbeats 20000000
set_option maxRecDepth 20000
namespace Go.Proofs.AMT
open Go.AM Go.AM.LN
attribute [local congr] bindO_congr bindS_congr bindG_congr awpOps_congr aOne_congr awp_congr aCond_congr awpD_congr dOne_congr keysB_congr nOne_congr thenP_congr blockP_congr Chk_congr Brk_congr
noncomputable def s196 : Cs := fun ds => match ds with
  | [.sl .u64 a, .sl .u64 b] => some (((lim a ∧ sz a = a.length) ∧ a.length ≤ 70000000) ∧ ((lim b ∧ sz b = b.length) ∧ b.length ≤ 70000000) ∧ val b ≠ 0, .many [.fresh .u64 (limbs (val a / val b)), .fresh .u64 (limbs (val a % val b))])
  | _ => none
theorem s196_eq (a : List Int) (b : List Int) : norm s196 [.sl .u64 a, .sl .u64 b] = s196 [.sl .u64 a, .sl .u64 b] := rfl
theorem s196_nil1  (b : List Int) : norm s196 [.v (.slice none 0 0), .sl .u64 b] = s196 [.sl .u64 [], .sl .u64 b] := rfl
theorem s196_nil2 (a : List Int)  : norm s196 [.sl .u64 a, .v (.slice none 0 0)] = s196 [.sl .u64 a, .sl .u64 []] := rfl
theorem s196_nil3   : norm s196 [.v (.slice none 0 0), .v (.slice none 0 0)] = s196 [.sl .u64 [], .sl .u64 []] := rfl
noncomputable def G196 : Gam := [(97, .body, norm s97), (131, .body, norm s131), (141, .body, norm s141), (142, .body, norm s142), (168, .body, norm s168), (218, .body, norm s218), (231, .body, norm s231), (232, .body, norm s232)]
theorem G196_ok : Gk Tryz.prog G196 := Gc sound_97 (Gc sound_131 (Gc sound_141 (Gc sound_142 (Gc sound_168 (Gc sound_218 (Gc sound_231 (Gc sound_232 Gn)))))))
theorem k196_97 : lk G196 97 = some (.body, norm s97) := rfl
theorem k196_131 : lk G196 131 = some (.body, norm s131) := rfl
theorem k196_141 : lk G196 141 = some (.body, norm s141) := rfl
theorem k196_142 : lk G196 142 = some (.body, norm s142) := rfl
theorem k196_168 : lk G196 168 = some (.body, norm s168) := rfl
theorem k196_218 : lk G196 218 = some (.body, norm s218) := rfl
theorem k196_231 : lk G196 231 = some (.body, norm s231) := rfl
theorem k196_232 : lk G196 232 = some (.body, norm s232) := rfl
theorem wk196 (a : List Int) (b : List Int) (hp : ((lim a ∧ sz a = a.length) ∧ a.length ≤ 70000000) ∧ ((lim b ∧ sz b = b.length) ∧ b.length ≤ 70000000) ∧ val b ≠ 0) : awp ty G196 (code Tryz.f196) (retP ty Tryz.f196.results.toList (.many [.fresh .u64 (limbs (val a / val b)), .fresh .u64 (limbs (val a % val b))])) (entry 0 [.sl .u64 a, .sl .u64 b]) [] := by
  unfold code
  simp only [Tryz.f196, Option.getD_some]
  obtain ⟨⟨⟨la, sa⟩, pa⟩, ⟨⟨lb, sb⟩, pb⟩, hb0⟩ := hp
  have za := sz_le a
  have zb := sz_le b
  have hb1 : 1 ≤ b.length := by
    have := (not_congr (sz_zero lb)).2 hb0
    omega
  have eb : ((b.length : Int) - 1).toNat = b.length - 1 := by omega
  have hw := Mg lb (i := b.length - 1)
  have hbl : blen (b.getD (b.length - 1) 0).toNat ≤ 64 := blen_lt.2 (by omega)
  obtain ⟨sh, hsh⟩ : ∃ sh, 64 - blen (b.getD (b.length - 1) 0).toNat = sh := ⟨_, rfl⟩
  have hsN : (64 : Int) - (blen (b.getD (b.length - 1) 0).toNat : Int) = (sh : Int) := by omega
  have tN : ((sh : Int)).toNat = sh := Int.toNat_natCast sh
  have hw0 : b.getD (b.length - 1) 0 ≠ 0 := by
    have := sz_top (a := b) (by omega)
    rw [sb] at this; exact this
  all_goals repeat' (first
 | ((with_reducible first | (refine ZA ?_; intro X hX) | (show awp _ _ _ _ (Kp _ _) _) | refine ZD ?_ | refine ZE ?_ | refine ZF ?_ | ((show Bg _ _ _ _ _); simp only [hall]) | (refine ZR ?_ ?_ <;> intro hb <;> (try simp only [hb]) <;> have hq := hb <;> try simp only [HQ] at hq)) <;> try simp only [Go.AM.SS, Nat.reduceAdd, Nat.reduceMul, Nat.reduceSub, ↓reduceIte, Nat.reduceEqDiff, Nat.reduceLT, Nat.reduceLeDiff, reduceCtorEq, Int.reduceBEq, Int.reduceBNe, Nat.reduceBEq, Int.reduceEq, Int.reduceToNat, Int.reduceLE, Int.reduceLT, Nat.reduceDiv, Int.reduceAdd, Int.reduceSub, Int.reduceMul, Int.reduceNeg, Int.reduceGT, Int.reduceGE, Nat.reduceMod, k196_97, s97.eq_1, s97_eq, k196_131, s131.eq_1, s131_eq, s131_nil1, k196_141, s141.eq_1, s141_eq, s141_nil1, s141_nil2, s141_nil3, k196_142, s142.eq_1, s142_eq, s142_nil1, k196_168, s168.eq_1, s168_eq, s168_nil1, k196_218, s218.eq_1, s218_eq, k196_231, s231.eq_1, s231_eq, s231_nil1, k196_232, s232.eq_1, s232_eq, s232_nil1, s232_nil2, s232_nil3, ty_3, ty_22, ty_50, cmpI_neg, eb, Vl, hsN, tN])
 | with_reducible first
 | (refine hX _ _ ?_; clear hX X)
 | (refine ZG ?_; try clear hall all)
 | (refine hK _ _ ?_; clear hK K)
 | refine ZL ?_
 | (refine v_0 _ _ ?_; try clear v_0 V_0)
 | (refine v_1 _ _ ?_; try clear v_1 V_1)
 | ((first | refine qr 11 [4,5] ?_ | refine qr 10 [13,14] ?_ | refine qr 9 [8,13,14] ?_ | refine qr 8 [8,9,11] ?_ | refine qr 7 [1,8,9] ?_ | refine qr 6 [0,1,8] ?_ | refine qb 0 [0,1] ?_ | refine qr 0 [0,1] ?_); intro V_0 v_0)
 | ((first | refine qr 2 [4,5] ?_ | refine qr 5 [4,5] ?_ | refine qr 4 [6,7] ?_ | refine qr 3 [0,1,22] ?_ | refine qr 1 [0,1,15] ?_); intro V_1 v_1)
 | (refine ZM ?_; intro K hK)
 | (refine ZN ?_; intro all hall K hK)
 | (refine ZQ ?_ ?_)
 | (refine Zg ?_; simp only [↓reduceIte, Nat.reduceEqDiff])
 | refine ZS ?_ | refine ZT ?_ | refine ZU ?_ | refine ZV ?_ | refine ZW ?_ | refine ZX ?_ | refine Ze ?_ | refine Zf ?_)
  all_goals try clear v_1 V_1
  all_goals try clear v_0 V_0
  all_goals (try simp only [inR])
  all_goals (have hsh63 : sh ≤ 63 := by have := @blen_zero (b.getD (b.length - 1) 0).toNat; omega)
  all_goals first
    | omega
    | skip
  · exact ⟨⟨la, by omega⟩, lb, by omega⟩
  · exact ⟨la, by omega⟩
  · rw [Nat.div_eq_of_lt hq, Nat.mod_eq_of_lt hq]; exact ⟨rfl, rfl⟩
  · have h0 : b.length - 1 = 0 := by omega
    rw [h0] at hw hw0
    exact ⟨⟨la, by omega⟩, by omega, by omega⟩
  · have h0 : b.length - 1 = 0 := by omega
    rw [h0] at hw hw0
    have := Nat.mod_lt (val a) (show 0 < (b.getD 0 0).toNat by omega)
    generalize val a % (b.getD 0 0).toNat = r at *
    omega
  · have h1 := val_one_word (b := b) (by omega)
    rw [h1]; exact ⟨rfl, rfl⟩
  · exact ⟨⟨la, by omega⟩, by omega, by omega⟩
  · exact ⟨⟨lb, by omega⟩, by omega, by omega⟩
  · have h1 := norm_len lb sb (by omega) hsh
    have h2 := len_shift (a := val a) (s := sh) (by omega)
    have h3 := Lz la
    exact ⟨⟨Ml _, by omega⟩, ⟨Ml _, by omega⟩, by omega, h1.2⟩
  · have h1 := norm_len lb sb (by omega) hsh
    have h2 : 0 < val b * 2 ^ sh := Nat.mul_pos (by omega) (Nat.two_pow_pos _)
    have h3 := len_mono (Nat.le_of_lt (Nat.mod_lt (val a * 2 ^ sh) h2))
    exact ⟨⟨Ml _, by omega⟩, by omega, by omega⟩
  · rw [shift_back.1, shift_back.2]; exact ⟨rfl, rfl⟩
theorem sound_196 : Sound Tryz.prog 196 .body (norm s196) := by
  refine sb Tryz.func196 rfl (by kernel_rfl) G196_ok (by kernel_rfl) fun ds p r hs hp => ?_
  unfold s196 at hs
  split at hs
  · cases hs; exact ⟨Nat.le_of_ble_eq_true (by kernel_rfl), wk196 _ _ hp⟩
  · cases hs
noncomputable def s137 : Cs := fun ds => match ds with
  | [.sl .u64 a, .sl .u64 b] => some ((lim a ∧ a.length ≤ 70000000) ∧ (lim b ∧ b.length ≤ 70000000) ∧ val b ≠ 0 ∧ sz a ≤ 2000 ∧ sz b ≤ 2000, .many [.fresh .u64 (limbs (val a / val b)), .fresh .u64 (limbs (val a % val b)), .v (.int .i64 0)])
  | _ => none
theorem s137_eq (a : List Int) (b : List Int) : norm s137 [.sl .u64 a, .sl .u64 b] = s137 [.sl .u64 a, .sl .u64 b] := rfl
theorem s137_nil1  (b : List Int) : norm s137 [.v (.slice none 0 0), .sl .u64 b] = s137 [.sl .u64 [], .sl .u64 b] := rfl
theorem s137_nil2 (a : List Int)  : norm s137 [.sl .u64 a, .v (.slice none 0 0)] = s137 [.sl .u64 a, .sl .u64 []] := rfl
theorem s137_nil3   : norm s137 [.v (.slice none 0 0), .v (.slice none 0 0)] = s137 [.sl .u64 [], .sl .u64 []] := rfl
noncomputable def G137 : Gam := [(193, .body, norm s193), (196, .body, norm s196)]
theorem G137_ok : Gk Tryz.prog G137 := Gc sound_193 (Gc sound_196 Gn)
theorem k137_193 : lk G137 193 = some (.body, norm s193) := rfl
theorem k137_196 : lk G137 196 = some (.body, norm s196) := rfl
theorem wk137 (a : List Int) (b : List Int) (hp : (lim a ∧ a.length ≤ 70000000) ∧ (lim b ∧ b.length ≤ 70000000) ∧ val b ≠ 0 ∧ sz a ≤ 2000 ∧ sz b ≤ 2000) : awp ty G137 (code Tryz.f137) (retP ty Tryz.f137.results.toList (.many [.fresh .u64 (limbs (val a / val b)), .fresh .u64 (limbs (val a % val b)), .v (.int .i64 0)])) (entry 0 [.sl .u64 a, .sl .u64 b]) [] := by
  unfold code
  simp only [Tryz.f137, Option.getD_some]
  have za := sz_le a
  have zb := sz_le b
  have ya := Lz hp.1.1
  have yb := Lz hp.2.1.1
  have xb := (not_congr (sz_zero hp.2.1.1)).2 hp.2.2.1
  have wa := sz_limbs (val a)
  have wb := sz_limbs (val b)
  all_goals repeat' (first
 | ((with_reducible first | (refine ZA ?_; intro X hX) | (refine ZB ?_; intro X hX) | (show awp _ _ _ _ (Kp _ _) _) | refine ZD ?_ | refine ZE ?_ | refine ZF ?_ | ((show Bg _ _ _ _ _); simp only [hall]) | (refine ZR ?_ ?_ <;> intro hb <;> (try simp only [hb]) <;> have hq := hb <;> try simp only [HQ] at hq)) <;> try simp only [Go.AM.SS, Nat.reduceAdd, Nat.reduceMul, Nat.reduceSub, ↓reduceIte, Nat.reduceEqDiff, Nat.reduceLT, Nat.reduceLeDiff, reduceCtorEq, Int.reduceBEq, Int.reduceBNe, Nat.reduceBEq, Int.reduceEq, Int.reduceToNat, Int.reduceLE, Int.reduceLT, Nat.reduceDiv, Int.reduceAdd, Int.reduceSub, Int.reduceMul, Int.reduceNeg, Int.reduceGT, Int.reduceGE, Nat.reduceMod, k137_193, s193.eq_1, s193_eq, s193_nil1, k137_196, s196.eq_1, s196_eq, s196_nil1, s196_nil2, s196_nil3, ty_3, ty_22, ty_50, Ts hp.1.1, Ts hp.2.1.1, Vl])
 | with_reducible first
 | (refine hX _ _ ?_; clear hX X)
 | (refine ZG ?_; try clear hall all)
 | (refine ZH ?_; try clear hall all)
 | (refine hK _ _ ?_; clear hK K)
 | refine ZL ?_
 | (refine v_0 _ _ ?_; try clear v_0 V_0)
 | (refine v_1 _ _ ?_; try clear v_1 V_1)
 | ((first | refine qr 7 [4,5,6] ?_ | refine qr 6 [7,8] ?_ | refine qb 0 [0,1] ?_ | refine qr 1 [0,1] ?_ | refine qr 0 [0,1] ?_); intro V_0 v_0)
 | ((first | refine qr 3 [4,5,6] ?_ | refine qr 5 [4,5,6] ?_ | refine qr 4 [0,1,21] ?_ | refine qr 2 [0,1,17] ?_); intro V_1 v_1)
 | (refine ZM ?_; intro K hK)
 | (refine ZN ?_; intro all hall K hK)
 | (refine ZO ?_ ?_; kernel_rfl; intro all hall K hK)
 | (refine ZQ ?_ ?_)
 | (refine ZK ?_; kernel_rfl)
 | (refine Zg ?_; simp only [↓reduceIte, Nat.reduceEqDiff])
 | refine ZS ?_ | refine ZT ?_ | refine ZU ?_ | refine ZV ?_ | refine ZW ?_ | refine ZX ?_ | refine Ze ?_ | refine Zf ?_)
  all_goals try clear v_1 V_1
  all_goals try clear v_0 V_0
  all_goals (try simp only [inR])
  all_goals first
    | omega
    | exact ⟨⟨⟨Ml _, sz_limbs _⟩, by omega⟩, ⟨⟨Ml _, sz_limbs _⟩, by omega⟩, hp.2.2.1⟩
    | rfl
theorem sound_137 : Sound Tryz.prog 137 .body (norm s137) := by
  refine sb Tryz.func137 rfl (by kernel_rfl) G137_ok (by kernel_rfl) fun ds p r hs hp => ?_
  unfold s137 at hs
  split at hs
  · cases hs; exact ⟨Nat.le_of_ble_eq_true (by kernel_rfl), wk137 _ _ hp⟩
  · cases hs
noncomputable def s138 : Cs := fun ds => match ds with
  | [.sl .u64 a, .sl .u64 b] => some ((lim a ∧ a.length ≤ 90000000) ∧ (lim b ∧ b.length ≤ 90000000) ∧ val b ≤ val a, .many [.fresh .u64 (limbs (val a - val b)), .v (.int .i64 0)])
  | _ => none
theorem s138_eq (a : List Int) (b : List Int) : norm s138 [.sl .u64 a, .sl .u64 b] = s138 [.sl .u64 a, .sl .u64 b] := rfl
theorem s138_nil1  (b : List Int) : norm s138 [.v (.slice none 0 0), .sl .u64 b] = s138 [.sl .u64 [], .sl .u64 b] := rfl
theorem s138_nil2 (a : List Int)  : norm s138 [.sl .u64 a, .v (.slice none 0 0)] = s138 [.sl .u64 a, .sl .u64 []] := rfl
theorem s138_nil3   : norm s138 [.v (.slice none 0 0), .v (.slice none 0 0)] = s138 [.sl .u64 [], .sl .u64 []] := rfl
noncomputable def G138 : Gam := [(131, .body, norm s131), (141, .body, norm s141), (153, .ext, sSub64), (193, .body, norm s193)]
theorem G138_ok : Gk Tryz.prog G138 := Gc sound_131 (Gc sound_141 (Gc ext_153 (Gc sound_193 Gn)))
theorem k138_131 : lk G138 131 = some (.body, norm s131) := rfl
theorem k138_141 : lk G138 141 = some (.body, norm s141) := rfl
theorem k138_153 : lk G138 153 = some (.ext, sSub64) := rfl
theorem k138_193 : lk G138 193 = some (.body, norm s193) := rfl
theorem wk138 (a : List Int) (b : List Int) (hp : (lim a ∧ a.length ≤ 90000000) ∧ (lim b ∧ b.length ≤ 90000000) ∧ val b ≤ val a) : awp ty G138 (code Tryz.f138) (retP ty Tryz.f138.results.toList (.many [.fresh .u64 (limbs (val a - val b)), .v (.int .i64 0)])) (entry 0 [.sl .u64 a, .sl .u64 b]) [] := by
  unfold code
  simp only [Tryz.f138, Option.getD_some]
  have ya := Lz hp.1.1
  have za := sz_le a
  have hc : decide (cmpI (val a) (val b) < 0) = false := by simp only [cmpI_neg, decide_eq_false_iff_not]; omega
  all_goals repeat' (first
 | ((with_reducible first | (refine ZA ?_; intro X hX) | (show awp _ _ _ _ (Kp _ _) _) | refine ZD ?_ | refine ZE ?_ | refine ZF ?_ | ((show Bg _ _ _ _ _); simp only [hall]) | (refine ZR ?_ ?_ <;> intro hb <;> (try simp only [hb]) <;> have hq := hb <;> try simp only [HQ] at hq)) <;> try simp only [Go.AM.SS, Nat.reduceAdd, Nat.reduceMul, Nat.reduceSub, ↓reduceIte, Nat.reduceEqDiff, Nat.reduceLT, Nat.reduceLeDiff, reduceCtorEq, Int.reduceBEq, Int.reduceBNe, Nat.reduceBEq, Int.reduceEq, Int.reduceToNat, Int.reduceLE, Int.reduceLT, Nat.reduceDiv, Int.reduceAdd, Int.reduceSub, Int.reduceMul, Int.reduceNeg, Int.reduceGT, Int.reduceGE, Nat.reduceMod, k138_131, s131.eq_1, s131_eq, s131_nil1, k138_141, s141.eq_1, s141_eq, s141_nil1, s141_nil2, s141_nil3, k138_153, sSub64_eq, k138_193, s193.eq_1, s193_eq, s193_nil1, ty_3, ty_22, ty_50, hc])
 | with_reducible first
 | (refine hX _ _ ?_; clear hX X)
 | (refine ZG ?_; try clear hall all)
 | (refine hK _ _ ?_; clear hK K)
 | refine ZL ?_
 | (refine v_0 _ _ ?_; try clear v_0 V_0)
 | (refine v_1 _ _ ?_; try clear v_1 V_1)
 | (refine v_2 _ _ ?_; try clear v_2 V_2)
 | (refine v_3 _ _ ?_; try clear v_3 V_3)
    | (with_reducible refine awp_lp (σ := Nat × Nat × List Int) (fun s => s.1 ≤ (limbs (val a)).length ∧ s.2.1 ≤ 1 ∧ lim s.2.2 ∧ s.2.2.length = (limbs (val a)).length ∧ s.2.2.drop s.1 = (limbs (val a)).drop s.1 ∧ val (s.2.2.take s.1) + val (b.take s.1) = val ((limbs (val a)).take s.1) + s.2.1 * 2 ^ (64 * s.1)) (fun s => [(1, .rd .u64 b), (6, .ow 240), (7, .v (.int .u64 s.2.1)), (17, .v (.int .i64 (limbs (val a)).length)), (18, .v (.int .i64 s.1))]) (fun s => [(240, .ints .u64 s.2.2, false)]) (fun s => (limbs (val a)).length - s.1) (0, 0, limbs (val a)) ?_ ?_ (fun s hs => ?_))
 | ((first | refine qr 13 [4,5] ?_ | refine Zh (a := .seq (.region 5 _ _) _) [6] ?_ | refine qr 4 [1,6,7] ?_ | refine qr 3 [1,6] ?_ | refine Zh (a := .seq (.region 1 _ _) _) [0,1] ?_ | refine qr 0 [0,1] ?_); intro V_0 v_0)
 | ((first | refine qb 1 [1,6,7,17,18] ?_ | refine Zh (a := .cond (.tmp 19) _ _) [1,6,7,17,18] ?_ | refine qr 6 [1,6,7,17,18,19] ?_ | refine qr 5 [1,6,7,17,18] ?_ | refine qr 2 [4,5] ?_ | refine qr 1 [0,1,13] ?_); intro V_1 v_1)
 | ((first | refine Zh (a := .seq (.region 9 _ _) _) [1,6,7,8,9,17,18] ?_ | refine qr 8 [1,6,7,8,9,17,18] ?_ | refine qr 7 [1,6,7,8,17,18] ?_); intro V_2 v_2)
 | ((first | refine qr 9 [1,6,7,8,9,17,18,24] ?_); intro V_3 v_3)
 | (refine ZM ?_; intro K hK)
 | (refine ZN ?_; intro all hall K hK)
 | (refine ZQ ?_ ?_)
 | (refine Zg ?_; simp only [↓reduceIte, Nat.reduceEqDiff])
 | refine ZS ?_ | refine ZT ?_ | refine ZU ?_ | refine ZV ?_ | refine ZW ?_ | refine ZX ?_ | refine ZY ?_ | refine ZZ ?_ | refine Za ?_ | refine Ze ?_ | refine Zf ?_)
  all_goals try clear v_3 V_3
  all_goals try clear v_2 V_2
  all_goals try clear v_1 V_1
  all_goals try clear v_0 V_0
  all_goals (try (rcases s with ⟨i, c, o⟩))
  all_goals (try dsimp only at *)
  all_goals (try simp only [inR])
  all_goals (try omega)
  · exact ⟨⟨hp.1.1, by omega⟩, hp.2.1.1, by omega⟩
  · exact ⟨hp.1.1, by omega⟩
  · exact ⟨Nat.zero_le _, by omega, Ml _, trivial, trivial, by simp [val]⟩
  · exact Ent.refl _ _
  · have h1 := Mg hs.2.2.1 (i := i)
    have h2 := Mg hp.2.1.1 (i := i)
    omega
  · have h1 := Mg hs.2.2.1 (i := i)
    have h2 := Mg hp.2.1.1 (i := i)
    have h3 := sub_step hs.2.2.1 hp.2.1.1 hs.2.1 (by omega) hs.2.2.2.2.1 hs.2.2.2.1 hs.2.2.2.2.2
    have h4 := drop_succ_of hs.2.2.2.2.1
    by_cases hlt : o.getD i 0 < b.getD i 0 + (c : Int)
    · rw [if_pos hlt] at h3 ⊢
      refine ⟨(i + 1, 1, o.set i ((o.getD i 0 - b.getD i 0 - (c : Int)) % 18446744073709551616)), by (refine Eo [(240, 240)] rfl ?_ ?_ <;> simp only [Me, Sl, AvLe, lk, ↓reduceIte, Nat.reduceEqDiff, Option.isSome_some, and_self, and_true, true_and, reduceCtorEq, List.map_nil, List.map_cons, Option.some.injEq, AV.v.injEq, Value.int.injEq, Value.bool.injEq, AV.rd.injEq, AV.ow.injEq, AV.al.injEq, AV.ref.injEq] <;> omega), ⟨by dsimp only; omega, by dsimp only; omega, lim_set hs.2.2.1 (by omega) i, by simp [hs.2.2.2.1], by dsimp only; rw [drop_set_succ, h4], h3⟩, by dsimp only; omega⟩
    · rw [if_neg hlt] at h3 ⊢
      refine ⟨(i + 1, 0, o.set i ((o.getD i 0 - b.getD i 0 - (c : Int)) % 18446744073709551616)), by (refine Eo [(240, 240)] rfl ?_ ?_ <;> simp only [Me, Sl, AvLe, lk, ↓reduceIte, Nat.reduceEqDiff, Option.isSome_some, and_self, and_true, true_and, reduceCtorEq, List.map_nil, List.map_cons, Option.some.injEq, AV.v.injEq, Value.int.injEq, Value.bool.injEq, AV.rd.injEq, AV.ow.injEq, AV.al.injEq, AV.ref.injEq] <;> omega), ⟨by dsimp only; omega, by dsimp only; omega, lim_set hs.2.2.1 (by omega) i, by simp [hs.2.2.2.1], by dsimp only; rw [drop_set_succ, h4], h3⟩, by dsimp only; omega⟩
  · have h1 := Mg hs.2.2.1 (i := i)
    omega
  · have h1 := Mg hs.2.2.1 (i := i)
    have h0 : b.getD i 0 = 0 := getD_out (by omega)
    have h2 := Mg hp.2.1.1 (i := i)
    have h3 := sub_step hs.2.2.1 hp.2.1.1 hs.2.1 (by omega) hs.2.2.2.2.1 hs.2.2.2.1 hs.2.2.2.2.2
    have h4 := drop_succ_of hs.2.2.2.2.1
    rw [h0] at h3
    by_cases hlt : o.getD i 0 < 0 + (c : Int)
    · rw [if_pos hlt] at h3 ⊢
      refine ⟨(i + 1, 1, o.set i ((o.getD i 0 - 0 - (c : Int)) % 18446744073709551616)), by (refine Eo [(240, 240)] rfl ?_ ?_ <;> simp only [Me, Sl, AvLe, lk, ↓reduceIte, Nat.reduceEqDiff, Option.isSome_some, and_self, and_true, true_and, reduceCtorEq, List.map_nil, List.map_cons, Option.some.injEq, AV.v.injEq, Value.int.injEq, Value.bool.injEq, AV.rd.injEq, AV.ow.injEq, AV.al.injEq, AV.ref.injEq] <;> omega), ⟨by dsimp only; omega, by dsimp only; omega, lim_set hs.2.2.1 (by omega) i, by simp [hs.2.2.2.1], by dsimp only; rw [drop_set_succ, h4], h3⟩, by dsimp only; omega⟩
    · rw [if_neg hlt] at h3 ⊢
      refine ⟨(i + 1, 0, o.set i ((o.getD i 0 - 0 - (c : Int)) % 18446744073709551616)), by (refine Eo [(240, 240)] rfl ?_ ?_ <;> simp only [Me, Sl, AvLe, lk, ↓reduceIte, Nat.reduceEqDiff, Option.isSome_some, and_self, and_true, true_and, reduceCtorEq, List.map_nil, List.map_cons, Option.some.injEq, AV.v.injEq, Value.int.injEq, Value.bool.injEq, AV.rd.injEq, AV.ow.injEq, AV.al.injEq, AV.ref.injEq] <;> omega), ⟨by dsimp only; omega, by dsimp only; omega, lim_set hs.2.2.1 (by omega) i, by simp [hs.2.2.2.1], by dsimp only; rw [drop_set_succ, h4], h3⟩, by dsimp only; omega⟩
  all_goals (have hi : i = (limbs (val a)).length := by omega)
  all_goals (subst hi)
  all_goals (have hz := sz_le o)
  all_goals (try omega)
  all_goals (have h5 := hs.2.2.2.2.2)
  all_goals (rw [List.take_length, List.take_of_length_le (by omega)] at h5)
  all_goals (have h6 := sub_fin (Ml _) hs.2.2.1 hp.2.1.1 hs.2.2.2.1 (by rw [Vl]; exact hp.2.2) h5)
  all_goals (rw [Vl] at h6)
  all_goals (rw [← h6, Ts hs.2.2.1])
theorem sound_138 : Sound Tryz.prog 138 .body (norm s138) := by
  refine sb Tryz.func138 rfl (by kernel_rfl) G138_ok (by kernel_rfl) fun ds p r hs hp => ?_
  unfold s138 at hs
  split at hs
  · cases hs; exact ⟨Nat.le_of_ble_eq_true (by kernel_rfl), wk138 _ _ hp⟩
  · cases hs
noncomputable def s216 : Cs := fun ds => match ds with
  | [.v (.int .i64 d), .v (.bool s), .v (.bool o), .v (.int .i64 h)] => some (True, .one (.v (.bool (upS d s o h))))
  | _ => none
theorem s216_eq (d : Int) (s : Bool) (o : Bool) (h : Int) : norm s216 [.v (.int .i64 d), .v (.bool s), .v (.bool o), .v (.int .i64 h)] = s216 [.v (.int .i64 d), .v (.bool s), .v (.bool o), .v (.int .i64 h)] := rfl
noncomputable def G216 : Gam := []
theorem G216_ok : Gk Tryz.prog G216 := Gn
theorem wk216 (d : Int) (s : Bool) (o : Bool) (h : Int) (hp : True) : awp ty G216 (code Tryz.f216) (retP ty Tryz.f216.results.toList (.one (.v (.bool (upS d s o h))))) (entry 0 [.v (.int .i64 d), .v (.bool s), .v (.bool o), .v (.int .i64 h)]) [] := by
  unfold code
  simp only [Tryz.f216, Option.getD_some]
  all_goals repeat' (first
 | ((with_reducible first | (refine ZA ?_; intro X hX) | (show awp _ _ _ _ (Kp _ _) _) | refine ZD ?_ | refine ZE ?_ | refine ZF ?_ | ((show Bg _ _ _ _ _); simp only [hall]) | (refine ZR ?_ ?_ <;> intro hb <;> (try simp only [hb]) <;> have hq := hb <;> try simp only [HQ] at hq)) <;> try simp only [Go.AM.SS, Nat.reduceAdd, Nat.reduceMul, Nat.reduceSub, ↓reduceIte, Nat.reduceEqDiff, Nat.reduceLT, Nat.reduceLeDiff, reduceCtorEq, Int.reduceBEq, Int.reduceBNe, Nat.reduceBEq, Int.reduceEq, Int.reduceToNat, Int.reduceLE, Int.reduceLT, Nat.reduceDiv, Int.reduceAdd, Int.reduceSub, Int.reduceMul, Int.reduceNeg, Int.reduceGT, Int.reduceGE, Nat.reduceMod, ty_3, ty_4])
 | with_reducible first
 | (refine hX _ _ ?_; clear hX X)
 | (refine ZG ?_; try clear hall all)
 | (refine hK _ _ ?_; clear hK K)
 | refine ZL ?_
 | (refine v_0 _ _ ?_; try clear v_0 V_0)
 | (refine v_1 _ _ ?_; try clear v_1 V_1)
 | ((first | refine qr 10 [8] ?_ | refine Zh (a := .seq (.region 1 _ _) _) [] ?_ | refine qr 0 [0,1,2,3] ?_); intro V_0 v_0)
 | ((first | refine qr 3 [8] ?_ | refine qr 5 [8] ?_ | refine qr 7 [8] ?_ | refine qr 9 [8] ?_ | refine qr 8 [1,29] ?_ | refine qr 6 [1,9,25] ?_ | refine qr 4 [1,3,9,21] ?_ | refine qr 2 [1,2,3,9,10] ?_ | refine qr 1 [1,2,3,9] ?_); intro V_1 v_1)
 | (refine ZM ?_; intro K hK)
 | (refine ZN ?_; intro all hall K hK)
 | (refine ZQ ?_ ?_)
 | (refine Zg ?_; simp only [↓reduceIte, Nat.reduceEqDiff])
 | refine ZS ?_ | refine ZT ?_ | refine ZU ?_ | refine ZV ?_ | refine ZW ?_ | refine ZX ?_ | refine Ze ?_ | refine Zf ?_)
  all_goals try clear v_1 V_1
  all_goals try clear v_0 V_0
  all_goals (unfold upS)
  all_goals (refine congrArg _ ?_; repeat' split)
  all_goals first
    | (exfalso; omega)
    | rfl
    | (have hh : h = 0 := by omega
       simp [hh])
    | (have hh : ¬ h = 0 := by omega
       have h2 : ¬ h > 0 := by omega
       simp [hh, h2])
    | (have h2 : h > 0 := by omega
       simp [h2])
theorem sound_216 : Sound Tryz.prog 216 .body (norm s216) := by
  refine sb Tryz.func216 rfl (by kernel_rfl) G216_ok (by kernel_rfl) fun ds p r hs hp => ?_
  unfold s216 at hs
  split at hs
  · cases hs; exact ⟨Nat.le_of_ble_eq_true (by kernel_rfl), wk216 _ _ _ _ hp⟩
  · cases hs
noncomputable def s167 : Cs := fun ds => match ds with
  | [.v (.int .i64 d), .v (.bool s), .sl .u64 a, .sl .u64 b] => some ((lim a ∧ a.length ≤ 70000000) ∧ (lim b ∧ b.length ≤ 70000000) ∧ val b ≠ 0 ∧ sz a ≤ 2000 ∧ sz b ≤ 2000, .many [.fresh .u64 (limbs (divS d s (val a) (val b)).1), .v (.bool (divS d s (val a) (val b)).2)])
  | _ => none
theorem s167_eq (d : Int) (s : Bool) (a : List Int) (b : List Int) : norm s167 [.v (.int .i64 d), .v (.bool s), .sl .u64 a, .sl .u64 b] = s167 [.v (.int .i64 d), .v (.bool s), .sl .u64 a, .sl .u64 b] := rfl
theorem s167_nil1 (d : Int) (s : Bool)  (b : List Int) : norm s167 [.v (.int .i64 d), .v (.bool s), .v (.slice none 0 0), .sl .u64 b] = s167 [.v (.int .i64 d), .v (.bool s), .sl .u64 [], .sl .u64 b] := rfl
theorem s167_nil2 (d : Int) (s : Bool) (a : List Int)  : norm s167 [.v (.int .i64 d), .v (.bool s), .sl .u64 a, .v (.slice none 0 0)] = s167 [.v (.int .i64 d), .v (.bool s), .sl .u64 a, .sl .u64 []] := rfl
theorem s167_nil3 (d : Int) (s : Bool)   : norm s167 [.v (.int .i64 d), .v (.bool s), .v (.slice none 0 0), .v (.slice none 0 0)] = s167 [.v (.int .i64 d), .v (.bool s), .sl .u64 [], .sl .u64 []] := rfl
noncomputable def G167 : Gam := [(97, .body, norm s97), (137, .body, norm s137), (138, .body, norm s138), (139, .body, norm s139), (141, .body, norm s141), (216, .body, norm s216)]
theorem G167_ok : Gk Tryz.prog G167 := Gc sound_97 (Gc sound_137 (Gc sound_138 (Gc sound_139 (Gc sound_141 (Gc sound_216 Gn)))))
theorem k167_97 : lk G167 97 = some (.body, norm s97) := rfl
theorem k167_137 : lk G167 137 = some (.body, norm s137) := rfl
theorem k167_138 : lk G167 138 = some (.body, norm s138) := rfl
theorem k167_139 : lk G167 139 = some (.body, norm s139) := rfl
theorem k167_141 : lk G167 141 = some (.body, norm s141) := rfl
theorem k167_216 : lk G167 216 = some (.body, norm s216) := rfl
theorem wk167 (d : Int) (s : Bool) (a : List Int) (b : List Int) (hp : (lim a ∧ a.length ≤ 70000000) ∧ (lim b ∧ b.length ≤ 70000000) ∧ val b ≠ 0 ∧ sz a ≤ 2000 ∧ sz b ≤ 2000) : awp ty G167 (code Tryz.f167) (retP ty Tryz.f167.results.toList (.many [.fresh .u64 (limbs (divS d s (val a) (val b)).1), .v (.bool (divS d s (val a) (val b)).2)])) (entry 0 [.v (.int .i64 d), .v (.bool s), .sl .u64 a, .sl .u64 b]) [] := by
  unfold code
  simp only [Tryz.f167, Option.getD_some]
  have za := sz_le a
  have zb := sz_le b
  have hr := Nat.mod_lt (val a) (show 0 < val b by omega)
  have hq1 := Nat.div_le_self (val a) (val b)
  have l1 := len_mono hq1
  have l2 := len_mono (Nat.le_of_lt hr)
  have l3 := len_mono (Nat.sub_le (val b) (val a % val b))
  have ya := Lz hp.1.1
  have yb := Lz hp.2.1.1
  have z1 := @len_zero (val a % val b)
  have z2 := @len_zero (val a / val b)
  have l4 : (limbs 1).length = 1 := rfl
  have l5 : val (limbs 1) = 1 := rfl
  all_goals repeat' (first
 | ((with_reducible first | (refine ZA ?_; intro X hX) | (refine ZB ?_; intro X hX) | (show awp _ _ _ _ (Kp _ _) _) | refine ZD ?_ | refine ZE ?_ | refine ZF ?_ | ((show Bg _ _ _ _ _); simp only [hall]) | (refine ZR ?_ ?_ <;> intro hb <;> (try simp only [hb]) <;> have hq := hb <;> try simp only [HQ] at hq)) <;> try simp only [Go.AM.SS, Nat.reduceAdd, Nat.reduceMul, Nat.reduceSub, ↓reduceIte, Nat.reduceEqDiff, Nat.reduceLT, Nat.reduceLeDiff, reduceCtorEq, Int.reduceBEq, Int.reduceBNe, Nat.reduceBEq, Int.reduceEq, Int.reduceToNat, Int.reduceLE, Int.reduceLT, Nat.reduceDiv, Int.reduceAdd, Int.reduceSub, Int.reduceMul, Int.reduceNeg, Int.reduceGT, Int.reduceGE, Nat.reduceMod, k167_97, s97.eq_1, s97_eq, k167_137, s137.eq_1, s137_eq, s137_nil1, s137_nil2, s137_nil3, k167_138, s138.eq_1, s138_eq, s138_nil1, s138_nil2, s138_nil3, k167_139, s139.eq_1, s139_eq, s139_nil1, s139_nil2, s139_nil3, k167_141, s141.eq_1, s141_eq, s141_nil1, s141_nil2, s141_nil3, k167_216, s216.eq_1, s216_eq, ty_3, ty_4, ty_22, ty_50, Vl, odd_eq, Int.toNat_one])
 | with_reducible first
 | (refine hX _ _ ?_; clear hX X)
 | (refine ZG ?_; try clear hall all)
 | (refine ZH ?_; try clear hall all)
 | (refine hK _ _ ?_; clear hK K)
 | refine ZL ?_
 | (refine v_0 _ _ ?_; try clear v_0 V_0)
 | (refine v_1 _ _ ?_; try clear v_1 V_1)
 | ((first | refine qr 7 [8,9] ?_ | refine Zh (a := .seq (.region 5 _ _) _) [10] ?_ | refine qr 4 [0,1,10,11,13] ?_ | refine Zh (a := .seq (.region 2 _ _) _) [0,1,3,10,11] ?_ | refine qr 1 [0,1,3,10,11] ?_ | refine qr 0 [0,1,2,3] ?_); intro V_0 v_0)
 | ((first | refine qr 5 [10,47] ?_ | refine qr 3 [8,9] ?_ | refine qr 2 [0,1,3,10,11,24] ?_); intro V_1 v_1)
 | (refine ZM ?_; intro K hK)
 | (refine ZN ?_; intro all hall K hK)
 | (refine ZO ?_ ?_; kernel_rfl; intro all hall K hK)
 | (refine ZQ ?_ ?_)
 | (refine ZK ?_; kernel_rfl)
 | refine ZT ?_ | refine ZU ?_ | refine ZW ?_)
  all_goals try clear v_1 V_1
  all_goals try clear v_0 V_0
  all_goals (try simp only [inR])
  all_goals first
    | omega
    | exact ⟨⟨hp.2.1.1, by omega⟩, ⟨Ml _, by omega⟩, by omega⟩
    | exact ⟨⟨Ml _, by omega⟩, Ml _, by omega⟩
    | (rw [divS_ex (by omega)]; all_goals (first | rfl | exact ⟨rfl, rfl⟩ | exact ⟨⟨rfl, rfl⟩, rfl⟩))
    | (rw [divS_up (by omega) (by assumption)]; all_goals (first | rfl | exact ⟨rfl, rfl⟩ | exact ⟨⟨rfl, rfl⟩, rfl⟩))
    | (rw [divS_dn (by omega) (by assumption)]; all_goals (first | rfl | exact ⟨rfl, rfl⟩ | exact ⟨⟨rfl, rfl⟩, rfl⟩))
    | (rw [divS_up (by omega) (by rw [odd0 (by omega)]; assumption)]; all_goals (first | rfl | exact ⟨rfl, rfl⟩ | exact ⟨⟨rfl, rfl⟩, rfl⟩))
    | (rw [divS_dn (by omega) (by rw [odd0 (by omega)]; assumption)]; all_goals (first | rfl | exact ⟨rfl, rfl⟩ | exact ⟨⟨rfl, rfl⟩, rfl⟩))
theorem sound_167 : Sound Tryz.prog 167 .body (norm s167) := by
  refine sb Tryz.func167 rfl (by kernel_rfl) G167_ok (by kernel_rfl) fun ds p r hs hp => ?_
  unfold s167 at hs
  split at hs
  · cases hs; exact ⟨Nat.le_of_ble_eq_true (by kernel_rfl), wk167 _ _ _ _ hp⟩
  · cases hs
noncomputable def s169 : Cs := fun ds => match ds with
  | [.sl .u64 a] => some (lim a ∧ a.length ≤ 4, .one (.v (.agg #[.int .u64 (a.getD 0 0), .int .u64 (a.getD 1 0), .int .u64 (a.getD 2 0), .int .u64 (a.getD 3 0)])))
  | _ => none
theorem s169_eq (a : List Int) : norm s169 [.sl .u64 a] = s169 [.sl .u64 a] := rfl
theorem s169_nil1  : norm s169 [.v (.slice none 0 0)] = s169 [.sl .u64 []] := rfl
noncomputable def G169 : Gam := []
theorem G169_ok : Gk Tryz.prog G169 := Gn
theorem wk169 (a : List Int) (hp : lim a ∧ a.length ≤ 4) : awp ty G169 (code Tryz.f169) (retP ty Tryz.f169.results.toList (.one (.v (.agg #[.int .u64 (a.getD 0 0), .int .u64 (a.getD 1 0), .int .u64 (a.getD 2 0), .int .u64 (a.getD 3 0)])))) (entry 0 [.sl .u64 a]) [] := by
  unfold code
  simp only [Tryz.f169, Option.getD_some]
  all_goals repeat' (first
 | ((with_reducible first | (refine ZA ?_; intro X hX) | (show awp _ _ _ _ (Kp _ _) _) | refine ZD ?_ | refine ZE ?_ | refine ZF ?_ | ((show Bg _ _ _ _ _); simp only [hall]) | (refine ZR ?_ ?_ <;> intro hb <;> (try simp only [hb]) <;> have hq := hb <;> try simp only [HQ] at hq)) <;> try simp only [Go.AM.SS, Nat.reduceAdd, Nat.reduceMul, Nat.reduceSub, ↓reduceIte, Nat.reduceEqDiff, Nat.reduceLT, Nat.reduceLeDiff, reduceCtorEq, Int.reduceBEq, Int.reduceBNe, Nat.reduceBEq, Int.reduceEq, Int.reduceToNat, Int.reduceLE, Int.reduceLT, Nat.reduceDiv, Int.reduceAdd, Int.reduceSub, Int.reduceMul, Int.reduceNeg, Int.reduceGT, Int.reduceGE, Nat.reduceMod, ty_22, ty_24, ty_50, aOne_copy, bindP_some, spCopy, spAppend, intSl, yInts, layAt, bits_list hp.2])
 | with_reducible first
 | (refine hX _ _ ?_; clear hX X)
 | (refine ZG ?_; try clear hall all)
 | (refine hK _ _ ?_; clear hK K)
 | refine ZL ?_
 | (refine v_0 _ _ ?_; try clear v_0 V_0)
 | ((first | refine qr 2 [2] ?_ | refine qr 1 [2] ?_ | refine qr 0 [0,2] ?_); intro V_0 v_0)
 | (refine ZM ?_; intro K hK)
 | (refine ZN ?_; intro all hall K hK)
 | (refine ZQ ?_ ?_)
 | refine ZT ?_ | refine ZU ?_ | refine ZW ?_)
  all_goals try clear v_0 V_0
  all_goals (try simp only [inR])
  all_goals first
    | omega
    | decide
theorem sound_169 : Sound Tryz.prog 169 .body (norm s169) := by
  refine sb Tryz.func169 rfl (by kernel_rfl) G169_ok (by kernel_rfl) fun ds p r hs hp => ?_
  unfold s169 at hs
  split at hs
  · cases hs; exact ⟨Nat.le_of_ble_eq_true (by kernel_rfl), wk169 _ hp⟩
  · cases hs
end Go.Proofs.AMT
