/- Part 8 of the proof: own text. -/
import Derived.Lib.Walk
import Derived.Lib.ConvBytes
import Derived.Laws.IdiomStrings
import Derived.WalkKit
import Derived.BigCall
import Derived.BigGuard
import Derived.KernelRfl
import Derived.Test.YthdbkmpkebdliaaGreatDoorK7
set_option linter.all false
set_option maxHeartbeats 20000000
set_option maxRecDepth 20000
namespace Go.Proofs.AMT
open Go.AM Go.AM.LN
attribute [local congr] bindO_congr bindS_congr bindG_congr awpOps_congr aOne_congr awp_congr aCond_congr awpD_congr dOne_congr keysB_congr nOne_congr thenP_congr blockP_congr Chk_congr Brk_congr
noncomputable def s167 : Cs := fun ds => match ds with
  | [.v (.int .i64 d), .v (.bool s), .sl .u64 a, .sl .u64 b] => some ((lim a ∧ a.length ≤ 70000000) ∧ (lim b ∧ b.length ≤ 70000000) ∧ val b ≠ 0 ∧ sz a ≤ 2000 ∧ sz b ≤ 2000, .many [.fresh .u64 (limbs (divS d s (val a) (val b)).1), .v (.bool (divS d s (val a) (val b)).2)])
  | _ => none
theorem s167_eq (d : Int) (s : Bool) (a : List Int) (b : List Int) : norm s167 [.v (.int .i64 d), .v (.bool s), .sl .u64 a, .sl .u64 b] = s167 [.v (.int .i64 d), .v (.bool s), .sl .u64 a, .sl .u64 b] := rfl
theorem s167_nil1 (d : Int) (s : Bool)  (b : List Int) : norm s167 [.v (.int .i64 d), .v (.bool s), .v (.slice none 0 0), .sl .u64 b] = s167 [.v (.int .i64 d), .v (.bool s), .sl .u64 [], .sl .u64 b] := rfl
theorem s167_nil2 (d : Int) (s : Bool) (a : List Int)  : norm s167 [.v (.int .i64 d), .v (.bool s), .sl .u64 a, .v (.slice none 0 0)] = s167 [.v (.int .i64 d), .v (.bool s), .sl .u64 a, .sl .u64 []] := rfl
theorem s167_nil3 (d : Int) (s : Bool)   : norm s167 [.v (.int .i64 d), .v (.bool s), .v (.slice none 0 0), .v (.slice none 0 0)] = s167 [.v (.int .i64 d), .v (.bool s), .sl .u64 [], .sl .u64 []] := rfl
noncomputable def G167 : Gam := [(97, .body, norm s97), (137, .body, norm s137), (138, .body, norm s138), (139, .body, norm s139), (141, .body, norm s141), (216, .body, norm s216)]
theorem G167_ok : Gk Tryz.prog G167 := Gc sound_97 (Gc sound_137 (Gc sound_138 (Gc sound_139 (Gc sound_141 (Gc sound_216 Gn)))))
theorem k167_97 : lk G167 97 = some (.body, norm s97) := rfl
theorem k167_137 : lk G167 137 = some (.body, norm s137) := rfl
theorem k167_138 : lk G167 138 = some (.body, norm s138) := rfl
theorem k167_139 : lk G167 139 = some (.body, norm s139) := rfl
theorem k167_141 : lk G167 141 = some (.body, norm s141) := rfl
theorem k167_216 : lk G167 216 = some (.body, norm s216) := rfl
theorem wk167 (d : Int) (s : Bool) (a : List Int) (b : List Int) (hp : (lim a ∧ a.length ≤ 70000000) ∧ (lim b ∧ b.length ≤ 70000000) ∧ val b ≠ 0 ∧ sz a ≤ 2000 ∧ sz b ≤ 2000) : awp ty G167 (code Tryz.f167) (retP ty Tryz.f167.results.toList (.many [.fresh .u64 (limbs (divS d s (val a) (val b)).1), .v (.bool (divS d s (val a) (val b)).2)])) (entry 0 [.v (.int .i64 d), .v (.bool s), .sl .u64 a, .sl .u64 b]) [] := by
  unfold code
  simp only [Tryz.f167, Option.getD_some]
  have za := sz_le a
  have zb := sz_le b
  have hr := Nat.mod_lt (val a) (show 0 < val b by omega)
  have hq1 := Nat.div_le_self (val a) (val b)
  have l1 := len_mono hq1
  have l2 := len_mono (Nat.le_of_lt hr)
  have l3 := len_mono (Nat.sub_le (val b) (val a % val b))
  have ya := Lz hp.1.1
  have yb := Lz hp.2.1.1
  have z1 := @len_zero (val a % val b)
  have z2 := @len_zero (val a / val b)
  have l4 : (limbs 1).length = 1 := rfl
  have l5 : val (limbs 1) = 1 := rfl
  all_goals repeat' (first
 | ((with_reducible first | (refine ZA ?_; intro X hX) | (refine ZB ?_; intro X hX) | (show awp _ _ _ _ (Kp _ _) _) | refine ZD ?_ | refine ZE ?_ | refine ZF ?_ | ((show Bg _ _ _ _ _); simp only [hall]) | (refine ZR ?_ ?_ <;> intro hb <;> (try simp only [hb]) <;> have hq := hb <;> try simp only [HQ] at hq)) <;> try simp only [Go.AM.SS, Nat.reduceAdd, Nat.reduceMul, Nat.reduceSub, ↓reduceIte, Nat.reduceEqDiff, Nat.reduceLT, Nat.reduceLeDiff, reduceCtorEq, Int.reduceBEq, Int.reduceBNe, Nat.reduceBEq, Int.reduceEq, Int.reduceToNat, Int.reduceLE, Int.reduceLT, Nat.reduceDiv, Int.reduceAdd, Int.reduceSub, Int.reduceMul, Int.reduceNeg, Int.reduceGT, Int.reduceGE, Nat.reduceMod, k167_97, s97.eq_1, s97_eq, k167_137, s137.eq_1, s137_eq, s137_nil1, s137_nil2, s137_nil3, k167_138, s138.eq_1, s138_eq, s138_nil1, s138_nil2, s138_nil3, k167_139, s139.eq_1, s139_eq, s139_nil1, s139_nil2, s139_nil3, k167_141, s141.eq_1, s141_eq, s141_nil1, s141_nil2, s141_nil3, k167_216, s216.eq_1, s216_eq, ty_3, ty_4, ty_22, ty_50, Vl, odd_eq, Int.toNat_one])
 | with_reducible first
 | (refine hX _ _ ?_; clear hX X)
 | (refine ZG ?_; try clear hall all)
 | (refine ZH ?_; try clear hall all)
 | (refine hK _ _ ?_; clear hK K)
 | refine ZL ?_
 | (refine v_0 _ _ ?_; try clear v_0 V_0)
 | (refine v_1 _ _ ?_; try clear v_1 V_1)
 | ((first | refine qr 7 [8,9] ?_ | refine Zh (a := .seq (.region 5 _ _) _) [10] ?_ | refine qr 4 [0,1,10,11,13] ?_ | refine Zh (a := .seq (.region 2 _ _) _) [0,1,3,10,11] ?_ | refine qr 1 [0,1,3,10,11] ?_ | refine qr 0 [0,1,2,3] ?_); intro V_0 v_0)
 | ((first | refine qr 5 [10,47] ?_ | refine qr 3 [8,9] ?_ | refine qr 2 [0,1,3,10,11,24] ?_); intro V_1 v_1)
 | (refine ZM ?_; intro K hK)
 | (refine ZN ?_; intro all hall K hK)
 | (refine ZO ?_ ?_; kernel_rfl; intro all hall K hK)
 | (refine ZQ ?_ ?_)
 | (refine ZK ?_; kernel_rfl)
 | refine ZT ?_ | refine ZU ?_ | refine ZW ?_)
  all_goals try clear v_1 V_1
  all_goals try clear v_0 V_0
  all_goals (try simp only [inR])
  all_goals first
    | omega
    | exact ⟨⟨hp.2.1.1, by omega⟩, ⟨Ml _, by omega⟩, by omega⟩
    | exact ⟨⟨Ml _, by omega⟩, Ml _, by omega⟩
    | (rw [divS_ex (by omega)]; all_goals (first | rfl | exact ⟨rfl, rfl⟩ | exact ⟨⟨rfl, rfl⟩, rfl⟩))
    | (rw [divS_up (by omega) (by assumption)]; all_goals (first | rfl | exact ⟨rfl, rfl⟩ | exact ⟨⟨rfl, rfl⟩, rfl⟩))
    | (rw [divS_dn (by omega) (by assumption)]; all_goals (first | rfl | exact ⟨rfl, rfl⟩ | exact ⟨⟨rfl, rfl⟩, rfl⟩))
    | (rw [divS_up (by omega) (by rw [odd0 (by omega)]; assumption)]; all_goals (first | rfl | exact ⟨rfl, rfl⟩ | exact ⟨⟨rfl, rfl⟩, rfl⟩))
    | (rw [divS_dn (by omega) (by rw [odd0 (by omega)]; assumption)]; all_goals (first | rfl | exact ⟨rfl, rfl⟩ | exact ⟨⟨rfl, rfl⟩, rfl⟩))
theorem sound_167 : Sound Tryz.prog 167 .body (norm s167) := by
  refine sb Tryz.func167 rfl (by kernel_rfl) G167_ok (by kernel_rfl) fun ds p r hs hp => ?_
  unfold s167 at hs
  split at hs
  · cases hs; exact ⟨Nat.le_of_ble_eq_true (by kernel_rfl), wk167 _ _ _ _ hp⟩
  · cases hs
noncomputable def s169 : Cs := fun ds => match ds with
  | [.sl .u64 a] => some (lim a ∧ a.length ≤ 4, .one (.v (.agg #[.int .u64 (a.getD 0 0), .int .u64 (a.getD 1 0), .int .u64 (a.getD 2 0), .int .u64 (a.getD 3 0)])))
  | _ => none
theorem s169_eq (a : List Int) : norm s169 [.sl .u64 a] = s169 [.sl .u64 a] := rfl
theorem s169_nil1  : norm s169 [.v (.slice none 0 0)] = s169 [.sl .u64 []] := rfl
noncomputable def G169 : Gam := []
theorem G169_ok : Gk Tryz.prog G169 := Gn
theorem wk169 (a : List Int) (hp : lim a ∧ a.length ≤ 4) : awp ty G169 (code Tryz.f169) (retP ty Tryz.f169.results.toList (.one (.v (.agg #[.int .u64 (a.getD 0 0), .int .u64 (a.getD 1 0), .int .u64 (a.getD 2 0), .int .u64 (a.getD 3 0)])))) (entry 0 [.sl .u64 a]) [] := by
  unfold code
  simp only [Tryz.f169, Option.getD_some]
  all_goals repeat' (first
 | ((with_reducible first | (refine ZA ?_; intro X hX) | (show awp _ _ _ _ (Kp _ _) _) | refine ZD ?_ | refine ZE ?_ | refine ZF ?_ | ((show Bg _ _ _ _ _); simp only [hall]) | (refine ZR ?_ ?_ <;> intro hb <;> (try simp only [hb]) <;> have hq := hb <;> try simp only [HQ] at hq)) <;> try simp only [Go.AM.SS, Nat.reduceAdd, Nat.reduceMul, Nat.reduceSub, ↓reduceIte, Nat.reduceEqDiff, Nat.reduceLT, Nat.reduceLeDiff, reduceCtorEq, Int.reduceBEq, Int.reduceBNe, Nat.reduceBEq, Int.reduceEq, Int.reduceToNat, Int.reduceLE, Int.reduceLT, Nat.reduceDiv, Int.reduceAdd, Int.reduceSub, Int.reduceMul, Int.reduceNeg, Int.reduceGT, Int.reduceGE, Nat.reduceMod, ty_22, ty_24, ty_50, aOne_copy, bindP_some, spCopy, spAppend, intSl, yInts, layAt, bits_list hp.2])
 | with_reducible first
 | (refine hX _ _ ?_; clear hX X)
 | (refine ZG ?_; try clear hall all)
 | (refine hK _ _ ?_; clear hK K)
 | refine ZL ?_
 | (refine v_0 _ _ ?_; try clear v_0 V_0)
 | ((first | refine qr 2 [2] ?_ | refine qr 1 [2] ?_ | refine qr 0 [0,2] ?_); intro V_0 v_0)
 | (refine ZM ?_; intro K hK)
 | (refine ZN ?_; intro all hall K hK)
 | (refine ZQ ?_ ?_)
 | refine ZT ?_ | refine ZU ?_ | refine ZW ?_)
  all_goals try clear v_0 V_0
  all_goals (try simp only [inR])
  all_goals first
    | omega
    | decide
theorem sound_169 : Sound Tryz.prog 169 .body (norm s169) := by
  refine sb Tryz.func169 rfl (by kernel_rfl) G169_ok (by kernel_rfl) fun ds p r hs hp => ?_
  unfold s169 at hs
  split at hs
  · cases hs; exact ⟨Nat.le_of_ble_eq_true (by kernel_rfl), wk169 _ hp⟩
  · cases hs
noncomputable def s99 : Cs := fun ds => match ds with
  | [.v (.int .i64 n), .v (.int .i64 d), .v (.bool s), .sl .u64 a, .sl .u64 b, .v (.int .i64 e)] => some ((lim a ∧ a.length ≤ 60000000) ∧ (lim b ∧ b.length ≤ 60000000) ∧ val b ≠ 0 ∧ sz a ≤ 800 ∧ sz b ≤ 800, .many [.v (.agg #[.int .u64 (w4 (roundV n d s (val a) (val b) e) 0), .int .u64 (w4 (roundV n d s (val a) (val b) e) 1), .int .u64 (w4 (roundV n d s (val a) (val b) e) 2), .int .u64 (w4 (roundV n d s (val a) (val b) e) 3)]), .v (.int .i64 (roundF n d s (val a) (val b) e)), .v (.int .i64 (roundE n d))])
  | _ => none
theorem s99_eq (n : Int) (d : Int) (s : Bool) (a : List Int) (b : List Int) (e : Int) : norm s99 [.v (.int .i64 n), .v (.int .i64 d), .v (.bool s), .sl .u64 a, .sl .u64 b, .v (.int .i64 e)] = s99 [.v (.int .i64 n), .v (.int .i64 d), .v (.bool s), .sl .u64 a, .sl .u64 b, .v (.int .i64 e)] := rfl
theorem s99_nil1 (n : Int) (d : Int) (s : Bool)  (b : List Int) (e : Int) : norm s99 [.v (.int .i64 n), .v (.int .i64 d), .v (.bool s), .v (.slice none 0 0), .sl .u64 b, .v (.int .i64 e)] = s99 [.v (.int .i64 n), .v (.int .i64 d), .v (.bool s), .sl .u64 [], .sl .u64 b, .v (.int .i64 e)] := rfl
theorem s99_nil2 (n : Int) (d : Int) (s : Bool) (a : List Int)  (e : Int) : norm s99 [.v (.int .i64 n), .v (.int .i64 d), .v (.bool s), .sl .u64 a, .v (.slice none 0 0), .v (.int .i64 e)] = s99 [.v (.int .i64 n), .v (.int .i64 d), .v (.bool s), .sl .u64 a, .sl .u64 [], .v (.int .i64 e)] := rfl
theorem s99_nil3 (n : Int) (d : Int) (s : Bool)   (e : Int) : norm s99 [.v (.int .i64 n), .v (.int .i64 d), .v (.bool s), .v (.slice none 0 0), .v (.slice none 0 0), .v (.int .i64 e)] = s99 [.v (.int .i64 n), .v (.int .i64 d), .v (.bool s), .sl .u64 [], .sl .u64 [], .v (.int .i64 e)] := rfl
noncomputable def G99 : Gam := [(71, .body, norm s71), (91, .body, norm s91), (92, .body, norm s92), (97, .body, norm s97), (131, .body, norm s131), (133, .body, norm s133), (141, .body, norm s141), (165, .body, norm s165), (166, .body, norm s166), (167, .body, norm s167), (168, .body, norm s168), (169, .body, norm s169)]
theorem G99_ok : Gk Tryz.prog G99 := Gc sound_71 (Gc sound_91 (Gc sound_92 (Gc sound_97 (Gc sound_131 (Gc sound_133 (Gc sound_141 (Gc sound_165 (Gc sound_166 (Gc sound_167 (Gc sound_168 (Gc sound_169 Gn)))))))))))
theorem k99_71 : lk G99 71 = some (.body, norm s71) := rfl
theorem k99_91 : lk G99 91 = some (.body, norm s91) := rfl
theorem k99_92 : lk G99 92 = some (.body, norm s92) := rfl
theorem k99_97 : lk G99 97 = some (.body, norm s97) := rfl
theorem k99_131 : lk G99 131 = some (.body, norm s131) := rfl
theorem k99_133 : lk G99 133 = some (.body, norm s133) := rfl
theorem k99_141 : lk G99 141 = some (.body, norm s141) := rfl
theorem k99_165 : lk G99 165 = some (.body, norm s165) := rfl
theorem k99_166 : lk G99 166 = some (.body, norm s166) := rfl
theorem k99_167 : lk G99 167 = some (.body, norm s167) := rfl
theorem k99_168 : lk G99 168 = some (.body, norm s168) := rfl
theorem k99_169 : lk G99 169 = some (.body, norm s169) := rfl
theorem wk99 (n : Int) (d : Int) (s : Bool) (a : List Int) (b : List Int) (e : Int) (hp : (lim a ∧ a.length ≤ 60000000) ∧ (lim b ∧ b.length ≤ 60000000) ∧ val b ≠ 0 ∧ sz a ≤ 800 ∧ sz b ≤ 800) : awp ty G99 (code Tryz.f99) (retP ty Tryz.f99.results.toList (.many [.v (.agg #[.int .u64 (w4 (roundV n d s (val a) (val b) e) 0), .int .u64 (w4 (roundV n d s (val a) (val b) e) 1), .int .u64 (w4 (roundV n d s (val a) (val b) e) 2), .int .u64 (w4 (roundV n d s (val a) (val b) e) 3)]), .v (.int .i64 (roundF n d s (val a) (val b) e)), .v (.int .i64 (roundE n d))])) (entry 0 [.v (.int .i64 n), .v (.int .i64 d), .v (.bool s), .sl .u64 a, .sl .u64 b, .v (.int .i64 e)]) [] := by
  unfold code
  simp only [Tryz.f99, Option.getD_some]
  obtain ⟨la, lb, hy0, sa, sb⟩ := hp
  have za := Lz la.1
  have zb := Lz lb.1
  generalize hx : val a = x at *
  generalize hy : val b = y at *
  have hI0 : infoV n = (if 1 ≤ n ∧ n ≤ 12 then infoT n else infoZ) := rfl
  have gkE := okB0 n
  have hcase : ¬ (1 ≤ n ∧ n ≤ 6) ∨ ((1 ≤ n ∧ n ≤ 6) ∧ ¬ (0 ≤ d ∧ d ≤ 4)) ∨ ((1 ≤ n ∧ n ≤ 6) ∧ (0 ≤ d ∧ d ≤ 4)) := by omega
  rcases hcase with hn | ⟨hn, hd⟩ | ⟨hn, hd⟩
  rcases Classical.em (1 ≤ n ∧ n ≤ 12) with hr | hr
  all_goals first
    | (have hI := infoV_in hr)
    | (have hI := infoV_out hr)
    | (have hI := infoV_in (n := n) (by omega))
  all_goals first
    | (have gk := gkE.trans (decide_eq_true hn))
    | (have gk := gkE.trans (decide_eq_false hn))
  all_goals first
    | (have gr : (decide (d ≥ 0) && decide (d ≤ 4)) = true := by rw [decide_eq_true (by omega : d ≥ 0), decide_eq_true (by omega : d ≤ 4)]; rfl)
    | (have gr : (decide (d ≥ 0) && decide (d ≤ 4)) = false := by
         rw [Bool.and_eq_false_iff, decide_eq_false_iff_not, decide_eq_false_iff_not]; omega)
    | (have gr : decide ((4 : Int) ≥ 5) = false := rfl)
  all_goals clear gkE hI0
  all_goals (obtain ⟨F1, F2, F3, F4, F5, F6, F7, F8, F9, F10, F11⟩ : BF (if 1 ≤ n ∧ n ≤ 6 then n else 1) := bfmt (by split <;> omega))
  all_goals first
    | (have h0 := okR_n (d := d) hn
       obtain ⟨q1, q2, q3⟩ := round_no h0 s x y e
       rw [q1, q2, q3])
    | (have h0 := okR_d (n := n) hd
       obtain ⟨q1, q2, q3⟩ := round_no h0 s x y e
       rw [q1, q2, q3])
    | (have h0 := okR_y hn hd
       obtain ⟨q1, q2, q3⟩ := round_yes h0 s x y e
       rw [q1, q2, q3])
  case' inr.inr =>
    rw [if_pos hn] at F1 F2 F3 F4 F5 F6 F7 F8 F9 F10 F11
    rcases Nat.eq_zero_or_pos x with hx0 | hx0
  case' inr.inr.inr =>
    obtain ⟨bl1, bl2⟩ := lowS_bound hx0 (Nat.pos_of_ne_zero hy0)
    obtain ⟨E', hE'⟩ : ∃ E', min (max e (-130000)) 130000 = E' := ⟨_, rfl⟩
    have xb := blen_le_len x
    have yb := blen_le_len y
    have hcl : (-130000 ≤ E' ∧ E' ≤ 130000) ∧ (E' = e ∨ (E' = 130000 ∧ 130000 < e) ∨ (E' = -130000 ∧ e < -130000)) := by omega
    obtain ⟨L, hL⟩ : ∃ L, lowS x y = L := ⟨_, rfl⟩
    rw [hL] at bl1 bl2
    have hrl : rlow x y e = L + e := by unfold rlow; rw [hL]
    have hway : (fe n + 1 - fp n + fp n ≤ L + E') ∨ (¬ fe n + 1 - fp n + fp n ≤ L + E' ∧ L + E' < 2 - fe n - fp n - 1) ∨ (¬ fe n + 1 - fp n + fp n ≤ L + E' ∧ ¬ L + E' < 2 - fe n - fp n - 1 ∧ E' = e) := by omega
    rcases hway with hA | ⟨hA, hB⟩ | ⟨hA, hB, hEe⟩
  case' inr.inr.inr.inr.inl =>
    have hT := rdiv_tiny (n := n) (d := d) (s := s) hx0 (Nat.pos_of_ne_zero hy0) (show 1 ≤ fp n by omega) (show rlow x y e < 2 - fe n - fp n - 1 by rw [hrl]; omega)
    have hqC : max (2 - fe n - fp n) (2 - fe n - fp n - 2 - fp n + 1) = rq n x y e := by rw [hT.1]; omega
    have ekB : 2 - fe n - fp n - 2 - rq n x y e = -2 := by rw [hT.1]; omega
    obtain ⟨⟨c, ex⟩, hD⟩ : ∃ D, rdiv n d s x y e = D := ⟨_, rfl⟩
    have hdv : divS d s 1 4 = (c, ex) := by rw [← hT.2, hD]
    have hO : (rq n x y e = rlow x y e - fp n + 1 ∧ 2 ^ (fp n - 1).toNat ≤ c ∧ c ≤ 2 ^ (fp n).toNat) ∨ (rq n x y e = 2 - fe n - fp n ∧ c ≤ 2 ^ (fp n - 1).toNat) := by
      refine .inr ⟨hT.1, ?_⟩
      have h1 := (@divS_le d s 1 4).2
      rw [hdv] at h1
      exact Nat.le_trans h1 (Nat.one_le_two_pow)
    have hc1 : c ≤ 1 := by
      have := (@divS_le d s 1 4).2
      rw [hdv] at this; exact this
    have hex : ex = false := by
      have : (divS d s 1 4).2 = false := rfl
      rw [hdv] at this; exact this
    have hcl : c < 2 ^ 256 := Nat.lt_of_le_of_lt hc1 (by decide)
    have rqb := @rq_b n x y e
    clear hT
  case' inr.inr.inr.inr.inr =>
    subst hEe
    have hO := rdiv_ok (n := n) (d := d) (s := s) hn hx0 (Nat.pos_of_ne_zero hy0) (show 2 - fe n - fp n - 1 ≤ rlow x y E' by rw [hrl]; omega)
    have hqC : max (2 - fe n - fp n) (L + E' - fp n + 1) = rq n x y E' := by unfold rq; rw [hrl]
    have ekB : decide ((4 : Int) ≥ 5) = false := rfl
    obtain ⟨⟨c, ex⟩, hD⟩ : ∃ D, rdiv n d s x y E' = D := ⟨_, rfl⟩
    have hdv : divS d s (x * 2 ^ (E' - rq n x y E').toNat) (y * 2 ^ (-(E' - rq n x y E')).toNat) = (c, ex) := hD
    rw [hD] at hO
    have rqb := @rq_b n x y E'
    have hpw : 2 ^ (fp n).toNat ≤ 2 ^ 241 := Nat.pow_le_pow_right (by omega) (by omega)
    have hpw1 : 2 ^ (fp n - 1).toNat ≤ 2 ^ 241 := Nat.pow_le_pow_right (by omega) (by omega)
    have hcl : c < 2 ^ 256 := by
      have h241 : (2 : Nat) ^ 241 < 2 ^ 256 := by decide
      rcases hO with ⟨_, _, h3⟩ | ⟨_, h3⟩
      · exact Nat.lt_of_le_of_lt (Nat.le_trans h3 hpw) h241
      · exact Nat.lt_of_le_of_lt (Nat.le_trans h3 hpw1) h241
  case' inr.inr.inr.inl =>
    have hAr : fe n + 1 - fp n < rq n x y e := by
      have := @rq_b n x y e
      omega
  all_goals first
    | (have hV4 := V4_limbs hcl)
    | (have hV4 : decide ((4 : Int) ≥ 5) = false := rfl)
  all_goals first
    | (have hV5 := V4_limbs (Nat.lt_of_le_of_lt (Nat.div_le_self c 2) hcl))
    | (have hV5 : decide ((4 : Int) ≥ 5) = false := rfl)
  all_goals first
    | (have _h := hqC)
    | (have hqC : decide ((4 : Int) ≥ 5) = false := rfl
       have ekB : decide ((4 : Int) ≥ 5) = false := rfl
       have hdv : decide ((4 : Int) ≥ 5) = false := rfl)
  all_goals first
    | (have hE0 := hE')
    | (have hE0 : decide ((4 : Int) ≥ 5) = false := rfl)
  all_goals (have zx := @len_zero x)
  all_goals (have zy := @len_zero y)
  all_goals first
    | (have gx0 : (((limbs x).length : Int) == 0) = true := by simp only [beq_iff_eq]; omega)
    | (have gx0 : (((limbs x).length : Int) == 0) = false := by simp only [beq_eq_false_iff_ne, ne_eq]; omega)
    | (have gx0 : decide ((4 : Int) ≥ 5) = false := rfl)
  all_goals first
    | (have gy0 : (((limbs y).length : Int) == 0) = true := by simp only [beq_iff_eq]; omega)
    | (have gy0 : (((limbs y).length : Int) == 0) = false := by simp only [beq_eq_false_iff_ne, ne_eq]; omega)
    | (have gy0 : decide ((4 : Int) ≥ 5) = false := rfl)
  all_goals first
    | (have gx8 : decide (((limbs x).length : Int) > 800) = true := by simp only [decide_eq_true_eq]; omega)
    | (have gx8 : decide (((limbs x).length : Int) > 800) = false := by simp only [decide_eq_false_iff_not]; omega)
    | (have gx8 : decide ((4 : Int) ≥ 5) = false := rfl)
  all_goals first
    | (have gy8 : decide (((limbs y).length : Int) > 800) = true := by simp only [decide_eq_true_eq]; omega)
    | (have gy8 : decide (((limbs y).length : Int) > 800) = false := by simp only [decide_eq_false_iff_not]; omega)
    | (have gy8 : decide ((4 : Int) ≥ 5) = false := rfl)
  all_goals first
    | (have gA : decide (L + E' ≥ fe n + 1 - fp n + fp n) = true := by simp only [decide_eq_true_eq]; omega)
    | (have gA : decide (L + E' ≥ fe n + 1 - fp n + fp n) = false := by simp only [decide_eq_false_iff_not]; omega)
    | (have gA : decide ((4 : Int) ≥ 5) = false := rfl)
  all_goals first
    | (have gB : decide (L + E' < 2 - fe n - fp n - 1) = true := by simp only [decide_eq_true_eq]; omega)
    | (have gB : decide (L + E' < 2 - fe n - fp n - 1) = false := by simp only [decide_eq_false_iff_not]; omega)
    | (have gB : decide ((4 : Int) ≥ 5) = false := rfl)
  all_goals repeat' (first
 | ((with_reducible first | (refine ZA ?_; intro X hX) | (refine ZB ?_; intro X hX) | (show awp _ _ _ _ (Kp _ _) _) | refine ZD ?_ | refine ZE ?_ | refine ZF ?_ | ((show Bg _ _ _ _ _); simp only [hall]) | (refine ZR ?_ ?_ <;> intro hb <;> (try simp only [hb]) <;> have hq := hb <;> try simp only [HQ] at hq)) <;> try simp only [Go.AM.SS, Nat.reduceAdd, Nat.reduceMul, Nat.reduceSub, ↓reduceIte, Nat.reduceEqDiff, Nat.reduceLT, Nat.reduceLeDiff, reduceCtorEq, Int.reduceBEq, Int.reduceBNe, Nat.reduceBEq, Int.reduceEq, Int.reduceToNat, Int.reduceLE, Int.reduceLT, Nat.reduceDiv, Int.reduceAdd, Int.reduceSub, Int.reduceMul, Int.reduceNeg, Int.reduceGT, Int.reduceGE, Nat.reduceMod, k99_71, s71.eq_1, s71_eq, k99_91, s91.eq_1, s91_eq, k99_92, s92.eq_1, s92_eq, k99_97, s97.eq_1, s97_eq, k99_131, s131.eq_1, s131_eq, s131_nil1, k99_133, s133.eq_1, s133_eq, s133_nil1, k99_141, s141.eq_1, s141_eq, s141_nil1, s141_nil2, s141_nil3, k99_165, s165.eq_1, s165_eq, s165_nil1, s165_nil2, s165_nil3, k99_166, s166.eq_1, s166_eq, k99_167, s167.eq_1, s167_eq, s167_nil1, s167_nil2, s167_nil3, k99_168, s168.eq_1, s168_eq, s168_nil1, k99_169, s169.eq_1, s169_eq, s169_nil1, ty_3, ty_4, ty_9, ty_22, ty_24, ty_33, ty_50, ty_95, hx, hy, hI, infoT, infoZ, gk, gr, Vl, V4_x, gx0, gx8, gy0, gy8, Int.zero_sub, hE0, gA, gB, hqC, ekB, hdv, or84, hV4, hV5, Nat.reducePow, Nat.pow_zero, Nat.mul_one, Nat.one_mul, Int.toNat_one, Nat.pow_one, Int.neg_neg])
 | with_reducible first
 | (refine hX _ _ ?_; clear hX X)
 | (refine ZG ?_; try clear hall all)
 | (refine ZH ?_; try clear hall all)
 | (refine hK _ _ ?_; clear hK K)
 | refine ZL ?_
 | (refine v_0 _ _ ?_; try clear v_0 V_0)
 | (refine v_1 _ _ ?_; try clear v_1 V_1)
    | with_reducible refine hJ12 _ _ ?_
    | (with_reducible refine awp_seq_e (a := .seq (.region 12 _ _) _) [(0, .v (.int .i64 n)), (1, .v (.int .i64 d)), (2, .v (.bool s)), (3, .ow 592), (4, .ow 624), (5, .v (.int .i64 E')), (12, .ref 192 0), (15, .ref 240 0), (19, .v (.int .i64 L))] [(592, .ints .u64 (limbs x), true), (624, .ints .u64 (limbs y), true), (192, .vals [.int .u64 0, .int .u64 0, .int .u64 0, .int .u64 0], false), (240, .vals [.int .i64 n, .string (fnm n), .int .i64 (fb n), .int .i64 (fw n), .int .i64 (fp n), .int .i64 (fx n), .int .i64 (2 - fe n - fp n), .int .i64 (fe n + 1 - fp n), .int .i64 (fl n), .bool (fd n)], false)] ?_ ?_; rotate_left; intro KJ hJ12)
 | ((first | refine qr 34 [12,13,14] ?_ | refine qr 33 [12,27,28,29] ?_ | refine Zh (a := .seq (.region 29 _ _) _) [0,2,12,22,25,27] ?_ | refine qr 28 [0,2,12,15,19,22,25,26,27] ?_ | refine Zh (a := .seq (.region 26 _ _) _) [0,2,12,15,19,22,25,26] ?_ | refine Zh (a := .seq (.region 23 _ _) _) [0,1,2,12,15,19,22,25,26] ?_ | refine qr 22 [0,1,2,12,15,19,22,25,26] ?_ | refine qr 21 [0,1,2,12,15,19,22,23,24] ?_ | refine qr 20 [0,1,2,3,4,5,12,15,19,22] ?_ | refine qb 1 [0,1,2,3,4,5,12,15,19] ?_ | refine qr 15 [0,1,2,3,4,5,12,15,19] ?_ | refine Zh (a := .seq (.region 12 _ _) _) [0,1,2,3,4,5,12,15,19] ?_ | refine qr 11 [0,1,2,3,4,5,12,15,19] ?_ | refine qr 10 [0,1,2,3,4,5,12,15] ?_ | refine qb 0 [0,1,2,3,4,5,12,15] ?_ | refine qr 2 [0,1,2,3,4,5,12,15,16] ?_ | refine qr 1 [0,1,2,3,4,5,12,15,16] ?_ | refine qr 0 [0,1,2,3,4,5,12] ?_); intro V_0 v_0)
 | ((first | refine qr 31 [0,2,12,22,25,27,190] ?_ | refine qr 30 [0,2,12,15,19,22,25,27] ?_ | refine qr 29 [0,2,12,15,19,22,25,27,182] ?_ | refine qr 27 [12,13,14] ?_ | refine qr 26 [0,1,2,12,15,19,22,25,26,173] ?_ | refine qr 24 [0,1,2,12,15,19,22,25,26] ?_ | refine qr 23 [0,1,2,12,15,19,22,25,26,162] ?_ | refine qr 17 [12,13,14] ?_ | refine qr 18 [0,1,2,3,4,5,12,15,19,119] ?_ | refine qr 16 [0,1,2,3,4,5,12,15,19,104] ?_ | refine qr 13 [0,1,2,3,4,5,12,15,19,98] ?_ | refine qr 12 [0,1,2,3,4,5,12,15,19,20,21] ?_ | refine qr 4 [12,13,14] ?_ | refine qr 6 [12,13,14] ?_ | refine qr 9 [12,13,14] ?_ | refine qr 8 [12,17,18] ?_ | refine qr 7 [0,1,2,3,4,5,12,15,64] ?_ | refine qr 5 [0,1,2,3,4,5,12,15,54] ?_ | refine qr 3 [0,1,2,3,4,5,12,15,40] ?_); intro V_1 v_1)
 | (refine ZM ?_; intro K hK)
 | (refine ZN ?_; intro all hall K hK)
 | (refine ZO ?_ ?_; kernel_rfl; intro all hall K hK)
 | (refine ZQ ?_ ?_)
 | (refine ZK ?_; kernel_rfl)
 | (refine Zg ?_; simp only [↓reduceIte, Nat.reduceEqDiff])
 | refine ZS ?_ | refine ZT ?_ | refine ZU ?_ | refine ZV ?_ | refine ZW ?_ | refine ZX ?_ | refine Ze ?_ | refine Zf ?_)
  all_goals try clear v_1 V_1
  all_goals try clear v_0 V_0
  all_goals clear hV4 hV5 hqC ekB hdv gx0 gy0 gx8 gy8 gA gB gk gr hI
  all_goals (try simp only [inR])
  all_goals (have sx := sz_limbs x)
  all_goals (have sy := sz_limbs y)
  all_goals (have lx := len_limbs x)
  all_goals (have ly := len_limbs y)
  all_goals first
    | omega
    | exact ⟨la.1, by omega⟩
    | exact ⟨lb.1, by omega⟩
    | exact ⟨Ml _, by omega⟩
    | exact ⟨Ml _, Ml _, ⟨by omega, by omega⟩, fun _ => by omega, fun _ => by omega, by omega, by omega⟩
    | exact ⟨Ml _, Ml _, Nat.le_of_ble_eq_true rfl, fun _ => by decide⟩
    | exact ⟨⟨Ml _, Nat.le_of_ble_eq_true rfl⟩, ⟨Ml _, Nat.le_of_ble_eq_true rfl⟩, Nat.le_of_ble_eq_true rfl, Nat.le_of_ble_eq_true rfl⟩
    | exact ⟨⟨Ml _, by rw [len_pow (by omega)]; omega⟩, Ml _, by rw [len_pow (by omega)]; omega⟩
    | exact ⟨⟨Ml _, by rw [len_pow (by omega)]; omega⟩, ⟨Ml _, by rw [len_pow (by omega)]; omega⟩, Nat.mul_ne_zero (by omega) (Nat.pos_iff_ne_zero.1 (Nat.two_pow_pos _)), by rw [sz_limbs, len_pow (by omega)]; omega, by rw [sz_limbs, len_pow (by omega)]; omega⟩
    | exact ⟨Ml _, len4 hcl⟩
    | exact ⟨Ml _, Nat.le_trans (len4 hcl) (by omega)⟩
    | exact ⟨Ml _, len4 (Nat.lt_of_le_of_lt (Nat.div_le_self c 2) hcl)⟩
    | exact ⟨hn, ⟨Mg (Ml _), Mg (Ml _), Mg (Ml _), Mg (Ml _)⟩, rnd_isD1 F1 hO rqb.1 (by omega) (by omega)⟩
    | exact ⟨hn, ⟨Mg (Ml _), Mg (Ml _), Mg (Ml _), Mg (Ml _)⟩, rnd_isD0 F1 hO rqb.1 (by omega) (by omega)⟩
    | exact ⟨hn, .inl ⟨rfl, rfl, by omega, by omega, .inr ⟨by show ((0 : Nat) : Int) < _; omega, rfl⟩⟩⟩
    | (rw [(rnd_ovA (n := n) (d := d) (s := s) (by omega) hAr).1, (rnd_ovA (n := n) (d := d) (s := s) (by omega) hAr).2]; done)
    | (rw [(rnd_ovA (n := n) (d := d) (s := s) (by omega) hAr).1, (rnd_ovA (n := n) (d := d) (s := s) (by omega) hAr).2]; exact ⟨rfl, rfl⟩)
    | (obtain ⟨v1, v2⟩ := rnd_ov1 (by omega) hD (by omega) (by omega)
       rw [v1, v2]
       exact ⟨rfl, rfl⟩)
    | (obtain ⟨v1, v2⟩ := rnd_ov0 (by omega) hD (by omega) (by omega)
       rw [v1, v2]
       exact ⟨rfl, rfl⟩)
    | (have v1 := rnd_num1 (by omega) hD (by omega) (by omega)
       obtain ⟨f1, f2, f3⟩ := rnd_f (by omega) hD (.inl ⟨by omega, by omega⟩)
       rw [v1]
       first
         | (rw [f1 (by simp_all)]; exact ⟨rfl, rfl⟩)
         | (rw [f2 (by simp_all) (by omega)]; exact ⟨rfl, rfl⟩)
         | (rw [f3 (by simp_all) (by omega)]; exact ⟨rfl, rfl⟩))
    | (have v1 := rnd_num0 (by omega) hD (by omega) (by omega)
       obtain ⟨f1, f2, f3⟩ := rnd_f (by omega) hD (.inr ⟨by omega, by omega⟩)
       rw [v1]
       first
         | (rw [f1 (by simp_all)]; exact ⟨rfl, rfl⟩)
         | (rw [f2 (by simp_all) (by omega)]; exact ⟨rfl, rfl⟩)
         | (rw [f3 (by simp_all) (by omega)]; exact ⟨rfl, rfl⟩))
    | (rw [low_lt hL hq]; (refine Eo [(592, 592), (624, 624), (192, 192), (240, 240)] rfl ?_ ?_ <;> simp only [Me, Sl, AvLe, lk, ↓reduceIte, Nat.reduceEqDiff, Option.isSome_some, and_self, and_true, true_and, reduceCtorEq, List.map_nil, List.map_cons, Option.some.injEq, AV.v.injEq, Value.int.injEq, Value.bool.injEq, AV.rd.injEq, AV.ow.injEq, AV.al.injEq, AV.ref.injEq] <;> omega); done)
    | (rw [low_ge hL hq]; (refine Eo [(592, 592), (624, 624), (192, 192), (240, 240)] rfl ?_ ?_ <;> simp only [Me, Sl, AvLe, lk, ↓reduceIte, Nat.reduceEqDiff, Option.isSome_some, and_self, and_true, true_and, reduceCtorEq, List.map_nil, List.map_cons, Option.some.injEq, AV.v.injEq, Value.int.injEq, Value.bool.injEq, AV.rd.injEq, AV.ow.injEq, AV.al.injEq, AV.ref.injEq] <;> omega); done)
    | (rw [(rnd_zero (n := n) (d := d) (s := s) (e := e) (y := y) hx0).1, (rnd_zero (n := n) (d := d) (s := s) (e := e) (y := y) hx0).2]; exact ⟨rfl, rfl⟩)
    | rfl
    | (simp [w4]; done)
    | (simp only [wk40]; done)
    | (rw [wk40, wk40, wk40, wk40]; done)
    | ((refine Eo [(592, 592), (624, 624), (192, 192), (240, 240)] rfl ?_ ?_ <;> simp only [Me, Sl, AvLe, lk, ↓reduceIte, Nat.reduceEqDiff, Option.isSome_some, and_self, and_true, true_and, reduceCtorEq, List.map_nil, List.map_cons, Option.some.injEq, AV.v.injEq, Value.int.injEq, Value.bool.injEq, AV.rd.injEq, AV.ow.injEq, AV.al.injEq, AV.ref.injEq] <;> omega); done)
    | skip
theorem sound_99 : Sound Tryz.prog 99 .body (norm s99) := by
  refine sb Tryz.func99 rfl (by kernel_rfl) G99_ok (by kernel_rfl) fun ds p r hs hp => ?_
  unfold s99 at hs
  split at hs
  · cases hs; exact ⟨Nat.le_of_ble_eq_true (by kernel_rfl), wk99 _ _ _ _ _ _ hp⟩
  · cases hs
noncomputable def s101 : Cs := fun ds => match ds with
  | [.v (.agg ⟨[.int .i64 cl, .bool sg, .bool si, .string D, .int .i64 ex]⟩), .sl .u64 b] => some ((D.data.toList.all isDg = true ∧ D.size ≤ 4000) ∧ (lim b ∧ b.length ≤ 4) ∧ val b ≤ 2 ^ 255, .one (.v (.agg #[.int .u64 (w4 (payV si (dv D.data.toList) (val b)) 0), .int .u64 (w4 (payV si (dv D.data.toList) (val b)) 1), .int .u64 (w4 (payV si (dv D.data.toList) (val b)) 2), .int .u64 (w4 (payV si (dv D.data.toList) (val b)) 3)])))
  | _ => none
theorem s101_eq (cl : Int) (sg : Bool) (si : Bool) (D : ByteArray) (ex : Int) (b : List Int) : norm s101 [.v (.agg #[.int .i64 cl, .bool sg, .bool si, .string D, .int .i64 ex]), .sl .u64 b] = s101 [.v (.agg #[.int .i64 cl, .bool sg, .bool si, .string D, .int .i64 ex]), .sl .u64 b] := rfl
theorem s101_nil1 (cl : Int) (sg : Bool) (si : Bool) (D : ByteArray) (ex : Int)  : norm s101 [.v (.agg #[.int .i64 cl, .bool sg, .bool si, .string D, .int .i64 ex]), .v (.slice none 0 0)] = s101 [.v (.agg #[.int .i64 cl, .bool sg, .bool si, .string D, .int .i64 ex]), .sl .u64 []] := rfl
noncomputable def G101 : Gam := [(96, .body, norm s96), (97, .body, norm s97), (141, .body, norm s141), (169, .body, norm s169)]
theorem G101_ok : Gk Tryz.prog G101 := Gc sound_96 (Gc sound_97 (Gc sound_141 (Gc sound_169 Gn)))
theorem k101_96 : lk G101 96 = some (.body, norm s96) := rfl
theorem k101_97 : lk G101 97 = some (.body, norm s97) := rfl
theorem k101_141 : lk G101 141 = some (.body, norm s141) := rfl
theorem k101_169 : lk G101 169 = some (.body, norm s169) := rfl
theorem wk101 (cl : Int) (sg : Bool) (si : Bool) (D : ByteArray) (ex : Int) (b : List Int) (hp : (D.data.toList.all isDg = true ∧ D.size ≤ 4000) ∧ (lim b ∧ b.length ≤ 4) ∧ val b ≤ 2 ^ 255) : awp ty G101 (code Tryz.f101) (retP ty Tryz.f101.results.toList (.one (.v (.agg #[.int .u64 (w4 (payV si (dv D.data.toList) (val b)) 0), .int .u64 (w4 (payV si (dv D.data.toList) (val b)) 1), .int .u64 (w4 (payV si (dv D.data.toList) (val b)) 2), .int .u64 (w4 (payV si (dv D.data.toList) (val b)) 3)])))) (entry 0 [.v (.agg #[.int .i64 cl, .bool sg, .bool si, .string D, .int .i64 ex]), .sl .u64 b]) [] := by
  unfold code
  simp only [Tryz.f101, Option.getD_some]
  obtain ⟨d, rfl⟩ : ∃ d, D = bs d := ⟨_, Bt D⟩
  rw [Bz, Bd] at hp
  rw [Bd]
  have l48 : (48 :: d).all isDg = true := by rw [List.all_cons, hp.1.1]; rfl
  have hpl := len4 (payV_lt (q := si) (x := dv d) hp.2.2)
  have hL := dv_len hp.1.1
  have e48 := dv_0 d
  all_goals repeat' (first
 | ((with_reducible first | (refine ZA ?_; intro X hX) | (show awp _ _ _ _ (Kp _ _) _) | refine ZD ?_ | refine ZE ?_ | refine ZF ?_ | ((show Bg _ _ _ _ _); simp only [hall]) | (refine ZR ?_ ?_ <;> intro hb <;> (try simp only [hb]) <;> have hq := hb <;> try simp only [HQ] at hq)) <;> try simp only [Go.AM.SS, Nat.reduceAdd, Nat.reduceMul, Nat.reduceSub, ↓reduceIte, Nat.reduceEqDiff, Nat.reduceLT, Nat.reduceLeDiff, reduceCtorEq, Int.reduceBEq, Int.reduceBNe, Nat.reduceBEq, Int.reduceEq, Int.reduceToNat, Int.reduceLE, Int.reduceLT, Nat.reduceDiv, Int.reduceAdd, Int.reduceSub, Int.reduceMul, Int.reduceNeg, Int.reduceGT, Int.reduceGE, Nat.reduceMod, k101_96, s96.eq_1, s96_eq, k101_97, s97.eq_1, s97_eq, k101_141, s141.eq_1, s141_eq, s141_nil1, s141_nil2, s141_nil3, k101_169, s169.eq_1, s169_eq, s169_nil1, ty_3, ty_4, ty_9, ty_22, ty_24, ty_44, ty_50, bs_lit, bs_app, Bz, bs_beq, Bi, Bd, Be, bt_bs, List.length_append, List.append_nil, List.nil_append, List.cons_append, toInts, Vl, limbs_getD, e48])
 | with_reducible first
 | (refine hX _ _ ?_; clear hX X)
 | (refine ZG ?_; try clear hall all)
 | (refine hK _ _ ?_; clear hK K)
 | refine ZL ?_
 | (refine v_0 _ _ ?_; try clear v_0 V_0)
 | (refine v_1 _ _ ?_; try clear v_1 V_1)
 | ((first | refine qr 6 [4] ?_ | refine Zh (a := .seq (.region 4 _ _) _) [4,5] ?_ | refine Zh (a := .seq (.region 2 _ _) _) [2,4,5] ?_ | refine qr 1 [1,2,4,5] ?_ | refine qr 0 [1,2,4] ?_); intro V_0 v_0)
 | ((first | refine qr 4 [4,5,24] ?_ | refine qr 2 [2,4,5,17] ?_); intro V_1 v_1)
 | (refine ZM ?_; intro K hK)
 | (refine ZN ?_; intro all hall K hK)
 | (refine ZQ ?_ ?_)
 | refine ZT ?_ | refine ZU ?_ | refine ZW ?_)
  all_goals try clear v_1 V_1
  all_goals try clear v_0 V_0
  all_goals (try simp only [inR])
  all_goals first
    | omega
    | exact ⟨l48, by omega⟩
    | exact ⟨⟨Ml _, by omega⟩, hp.2.1.1, by omega⟩
    | exact ⟨Ml _, by decide +kernel⟩
    | exact fun x hx => absurd hx (by simp)
    | (rw [hq, payV_0t (x := dv d) (B := val b) (pay_ge (by assumption))]; done)
    | (rw [hq, payV_0f (x := dv d) (B := val b) (pay_ge (by assumption))]; simp only [wk40]; rfl)
    | (have z : dv d = 0 := len_zero.1 (by omega)
       have hs : si = true := by assumption
       rw [hs, payV_0t (x := dv d) (B := val b) (by rw [z]; split <;> rfl)]; done)
    | (have z : dv d ≠ 0 := fun h => hq (by have := (len_zero (x := dv d)).2 h; omega)
       have e := payV_x (q := si) (x := dv d) (B := val b) (pay_lt (by assumption)) (.inr z)
       rw [e] at hpl; exact ⟨Ml _, hpl⟩)
    | (have z : dv d ≠ 0 := fun h => hq (by have := (len_zero (x := dv d)).2 h; omega)
       rw [payV_x (q := si) (x := dv d) (B := val b) (pay_lt (by assumption)) (.inr z)]; done)
    | (have e := payV_x (q := si) (x := dv d) (B := val b) (pay_lt (by assumption)) (.inl hq)
       rw [e] at hpl; exact ⟨Ml _, hpl⟩)
    | (rw [payV_x (q := si) (x := dv d) (B := val b) (pay_lt (by assumption)) (.inl hq)]; done)
    | skip
theorem sound_101 : Sound Tryz.prog 101 .body (norm s101) := by
  refine sb Tryz.func101 rfl (by kernel_rfl) G101_ok (by kernel_rfl) fun ds p r hs hp => ?_
  unfold s101 at hs
  split at hs
  · cases hs; exact ⟨Nat.le_of_ble_eq_true (by kernel_rfl), wk101 _ _ _ _ _ _ hp⟩
  · cases hs
end Go.Proofs.AMT
set_option maxRecDepth 20000
namespace Go.AM.LN
open Go Go.Lib
section
variable {n r c : Int} {s q : Bool} {d : List UInt8} {x : Int}
theorem mk_no (h : okR n r = false) : mkE n r c s q d x = 1 ∧ mkV n r c s q d x = 0 ∧ mkF n r c s q d x = 0 := by
  have e : mkE n r c s q d x = 1 := by unfold mkE; rw [h]; rfl
  refine ⟨e, ?_, ?_⟩
  · unfold mkV; rw [e]; rfl
  · unfold mkF; rw [e]; rfl
theorem mk_bad (h : okR n r = true) (hg : gGood c s q d x = false) : mkE n r c s q d x = 2 ∧ mkV n r c s q d x = 0 ∧ mkF n r c s q d x = 0 := by
  have e : mkE n r c s q d x = 2 := by unfold mkE; rw [h, hg]; rfl
  refine ⟨e, ?_, ?_⟩
  · unfold mkV; rw [e]; rfl
  · unfold mkF; rw [e]; rfl
theorem mk_ok (h : okR n r = true) (hg : gGood c s q d x = true) : mkE n r c s q d x = 0 := by unfold mkE; rw [h, hg]; rfl
theorem mk_1 (h : okR n r = true) (hg : gGood 1 s q d x = true) : mkV n r 1 s q d x = rndV n r s (tenX 11000 d x) (tenY 11000 x) 0 ∧ mkF n r 1 s q d x = rndF n r s (tenX 11000 d x) (tenY 11000 x) 0 := by
  have e := mk_ok h hg
  unfold mkV mkF
  rw [e]
  exact ⟨rfl, rfl⟩
theorem mk_2 (h : okR n r = true) (hg : gGood 2 s q d x = true) : mkV n r 2 s q d x = packS n 2 s false 0 0 ∧ mkF n r 2 s q d x = 0 := by
  have e := mk_ok h hg
  unfold mkV mkF
  rw [e]
  exact ⟨rfl, rfl⟩
theorem mk_3 (h : okR n r = true) (hg : gGood 3 s q d x = true) : mkV n r 3 s q d x = packS n 3 s q (payV q (dv d) (2 ^ (fl n).toNat)) 0 ∧ mkF n r 3 s q d x = 0 := by
  have e := mk_ok h hg
  unfold mkV mkF
  rw [e]
  exact ⟨rfl, rfl⟩
theorem good_2 (hg : gGood 2 s q d x = true) : q = false ∧ d = [] ∧ x = 0 := by
  unfold gGood at hg; simp at hg; exact ⟨hg.2.1.1, hg.2.1.2, hg.2.2⟩
theorem good_3 (hg : gGood 3 s q d x = true) : x = 0 := by
  unfold gGood at hg; simp at hg; exact hg.2.1
theorem pay_isD (hn : 1 ≤ n ∧ n ≤ 6) (X : Nat) : isD n 3 q (payV q X (2 ^ (fl n).toNat)) 0 := by
  obtain ⟨F1, F2, F3, F4, F5, F6, F7, F8, F9, F10, F11⟩ := bfmt hn
  refine .inr (.inr ⟨rfl, rfl, ?_, ?_⟩)
  · have h : payV q X (2 ^ (fl n).toNat) < 2 ^ (fl n).toNat := by
      have h2 : 2 ≤ 2 ^ (fl n).toNat := by
        have := Nat.pow_le_pow_right (show 0 < 2 by decide) (show 1 ≤ (fl n).toNat by omega)
        simpa using this
      unfold payV
      have hv : (if X < 2 ^ (fl n).toNat then X else 0) < 2 ^ (fl n).toNat := by split <;> omega
      generalize (if X < 2 ^ (fl n).toNat then X else 0) = v at *
      split <;> omega
    have := blen_lt.2 h
    omega
  · cases q
    · exact .inr rfl
    · left
      intro hc
      have h0 := blen_zero.1 hc
      unfold payV at h0
      generalize (if X < 2 ^ (fl n).toNat then X else 0) = v at *
      by_cases hv : v = 0
      · rw [if_pos ⟨rfl, hv⟩] at h0; exact absurd h0 (by decide)
      · rw [if_neg (fun hh => hv hh.2)] at h0; exact hv h0
theorem inf_isD (n : Int) : isD n 2 false 0 0 := .inr (.inl ⟨rfl, rfl, rfl, rfl⟩)
end
end Go.AM.LN
set_option maxRecDepth 20000
namespace Go.Proofs.AMT
open Go.AM Go.AM.LN
attribute [local congr] bindO_congr bindS_congr bindG_congr awpOps_congr aOne_congr awp_congr aCond_congr awpD_congr dOne_congr keysB_congr nOne_congr thenP_congr blockP_congr Chk_congr Brk_congr
noncomputable def s34 : Cs := fun ds => match ds with
  | [.v (.int .i64 n), .v (.int .i64 r), .v (.agg ⟨[.int .i64 cl, .bool sg, .bool si, .string D, .int .i64 ex]⟩)] => some (D.size ≤ 10000 ∧ -9223372036854775808 ≤ ex ∧ ex ≤ 9223372036854775807, .many [.v (.agg #[.int .u64 (w4 (mkV n r cl sg si D.data.toList ex) 0), .int .u64 (w4 (mkV n r cl sg si D.data.toList ex) 1), .int .u64 (w4 (mkV n r cl sg si D.data.toList ex) 2), .int .u64 (w4 (mkV n r cl sg si D.data.toList ex) 3)]), .v (.int .i64 (mkF n r cl sg si D.data.toList ex)), .v (.int .i64 (mkE n r cl sg si D.data.toList ex))])
  | _ => none
theorem s34_eq (n : Int) (r : Int) (cl : Int) (sg : Bool) (si : Bool) (D : ByteArray) (ex : Int) : norm s34 [.v (.int .i64 n), .v (.int .i64 r), .v (.agg #[.int .i64 cl, .bool sg, .bool si, .string D, .int .i64 ex])] = s34 [.v (.int .i64 n), .v (.int .i64 r), .v (.agg #[.int .i64 cl, .bool sg, .bool si, .string D, .int .i64 ex])] := rfl
noncomputable def G34 : Gam := [(71, .body, norm s71), (91, .body, norm s91), (92, .body, norm s92), (95, .body, norm s95), (96, .body, norm s96), (97, .body, norm s97), (98, .body, norm s98), (99, .body, norm s99), (100, .body, norm s100), (101, .body, norm s101)]
theorem G34_ok : Gk Tryz.prog G34 := Gc sound_71 (Gc sound_91 (Gc sound_92 (Gc sound_95 (Gc sound_96 (Gc sound_97 (Gc sound_98 (Gc sound_99 (Gc sound_100 (Gc sound_101 Gn)))))))))
theorem k34_71 : lk G34 71 = some (.body, norm s71) := rfl
theorem k34_91 : lk G34 91 = some (.body, norm s91) := rfl
theorem k34_92 : lk G34 92 = some (.body, norm s92) := rfl
theorem k34_95 : lk G34 95 = some (.body, norm s95) := rfl
theorem k34_96 : lk G34 96 = some (.body, norm s96) := rfl
theorem k34_97 : lk G34 97 = some (.body, norm s97) := rfl
theorem k34_98 : lk G34 98 = some (.body, norm s98) := rfl
theorem k34_99 : lk G34 99 = some (.body, norm s99) := rfl
theorem k34_100 : lk G34 100 = some (.body, norm s100) := rfl
theorem k34_101 : lk G34 101 = some (.body, norm s101) := rfl
theorem wk34 (n : Int) (r : Int) (cl : Int) (sg : Bool) (si : Bool) (D : ByteArray) (ex : Int) (hp : D.size ≤ 10000 ∧ -9223372036854775808 ≤ ex ∧ ex ≤ 9223372036854775807) : awp ty G34 (code Tryz.f34) (retP ty Tryz.f34.results.toList (.many [.v (.agg #[.int .u64 (w4 (mkV n r cl sg si D.data.toList ex) 0), .int .u64 (w4 (mkV n r cl sg si D.data.toList ex) 1), .int .u64 (w4 (mkV n r cl sg si D.data.toList ex) 2), .int .u64 (w4 (mkV n r cl sg si D.data.toList ex) 3)]), .v (.int .i64 (mkF n r cl sg si D.data.toList ex)), .v (.int .i64 (mkE n r cl sg si D.data.toList ex))])) (entry 0 [.v (.int .i64 n), .v (.int .i64 r), .v (.agg #[.int .i64 cl, .bool sg, .bool si, .string D, .int .i64 ex])]) [] := by
  unfold code
  simp only [Tryz.f34, Option.getD_some]
  obtain ⟨l, rfl⟩ : ∃ l, D = bs l := ⟨_, Bt D⟩
  rw [Bz] at hp
  rw [Bd]
  have hV0 : V4 0 0 0 0 = 0 := rfl
  have hO := okB0 n
  have e48 := dv_0 l
  have i2 : (2 : Int).toNat = 2 := rfl
  obtain ⟨E, hE⟩ : ∃ E, min (max ex (-11000)) 11000 = E := ⟨_, rfl⟩
  have hcE : clE 11000 ex = E := hE
  have hEb : -11000 ≤ E ∧ E ≤ 11000 := by omega
  have hc : ¬ (1 ≤ n ∧ n ≤ 6) ∨ ((1 ≤ n ∧ n ≤ 6) ∧ ¬ (0 ≤ r ∧ r ≤ 4)) ∨ ((1 ≤ n ∧ n ≤ 6) ∧ 0 ≤ r ∧ r ≤ 4) := by omega
  rcases hc with hn | ⟨hn, hr⟩ | ⟨hn, hr⟩
  case' inl =>
    rw [(mk_no (okR_n hn)).1, (mk_no (okR_n hn)).2.1, (mk_no (okR_n hn)).2.2]
    rw [decide_eq_false hn] at hO
    have h12 : (1 ≤ n ∧ n ≤ 12) ∨ ¬ (1 ≤ n ∧ n ≤ 12) := by omega
    rcases h12 with h12 | h12
    all_goals first
      | have hI := infoV_in h12
      | have hI := infoV_out h12
    all_goals have gR : decide ((4 : Int) ≥ 5) = false := rfl
    all_goals have hG : decide ((4 : Int) ≥ 5) = false := rfl
    all_goals have g0 : decide ((4 : Int) ≥ 5) = false := rfl
    all_goals have hP : decide ((4 : Int) ≥ 5) = false := rfl
  case' inr.inl =>
    rw [(mk_no (okR_d hr)).1, (mk_no (okR_d hr)).2.1, (mk_no (okR_d hr)).2.2]
    rw [decide_eq_true hn] at hO
    have gR : (decide (r ≥ 0) && decide (r ≤ 4)) = false := by
      rw [Bool.and_eq_false_iff, decide_eq_false_iff_not, decide_eq_false_iff_not]; omega
    have hI := infoV_in (n := n) (by omega)
    have hG : decide ((4 : Int) ≥ 5) = false := rfl
    have g0 : decide ((4 : Int) ≥ 5) = false := rfl
    have hP : decide ((4 : Int) ≥ 5) = false := rfl
  case' inr.inr =>
    have hR := okR_y hn hr
    rw [decide_eq_true hn] at hO
    have gR : (decide (r ≥ 0) && decide (r ≤ 4)) = true := by rw [decide_eq_true (by omega : r ≥ 0), decide_eq_true (by omega : r ≤ 4)]; rfl
    have hI := infoV_in (n := n) (by omega)
    obtain ⟨F1, F2, F3, F4, F5, F6, F7, F8, F9, F10, F11⟩ := bfmt hn
    rcases Bool.eq_false_or_eq_true (gGood cl sg si l ex) with hG | hG
    case' inr =>
      rw [(mk_bad hR hG).1, (mk_bad hR hG).2.1, (mk_bad hR hG).2.2]
      have g0 : decide ((4 : Int) ≥ 5) = false := rfl
      have hP : decide ((4 : Int) ≥ 5) = false := rfl
    case' inl =>
      obtain ⟨gl, gc, ga⟩ := good_len hG
      have hL := dv_len3 ga
      rw [mk_ok hR hG]
      rcases gc with rfl | rfl | rfl
      case' inl =>
        rw [(mk_1 hR hG).1, (mk_1 hR hG).2]
        unfold tenX tenY
        rw [hcE]
        have q1 := round_yes hR sg (dv l * 10 ^ E.toNat) (10 ^ (-E).toNat) 0
        have q0 := round_yes hR sg (dv l) 1 0
        have hM := dv_mul_len ga E.toNat
        have hN := pow10_len (-E).toNat
        have hz0 : 10 ^ (-E).toNat ≠ 0 := Nat.pos_iff_ne_zero.1 (Nat.pow_pos (by decide))
        have hP : decide ((4 : Int) ≥ 5) = false := rfl
        rcases Nat.eq_zero_or_pos (dv l) with hz | hz
        all_goals first
          | (have g0 : decide (((limbs (dv l)).length : Int) > 0) = false := by rw [hz]; rfl)
          | (have g0 : decide (((limbs (dv l)).length : Int) > 0) = true := by
               have := (not_congr (len_zero (x := dv l))).2 (by omega)
               rw [decide_eq_true]; omega)
      case' inr.inl =>
        obtain ⟨rfl, rfl, rfl⟩ := good_2 hG
        rw [(mk_2 hR hG).1, (mk_2 hR hG).2]
        have g0 : decide ((4 : Int) ≥ 5) = false := rfl
        have hP : decide ((4 : Int) ≥ 5) = false := rfl
      case' inr.inr =>
        obtain rfl := good_3 hG
        rw [(mk_3 hR hG).1, (mk_3 hR hG).2]
        have hP := V4_w4 (payV_lt (q := si) (x := dv l) (B := 2 ^ (fl n).toNat) (Nat.pow_le_pow_right (by decide) (by omega)))
        have hPD := pay_isD (q := si) hn (dv l)
        have g0 : decide ((4 : Int) ≥ 5) = false := rfl
  all_goals repeat' (first
 | ((with_reducible first | (refine ZA ?_; intro X hX) | (show awp _ _ _ _ (Kp _ _) _) | refine ZD ?_ | refine ZE ?_ | refine ZF ?_ | ((show Bg _ _ _ _ _); simp only [hall]) | (refine ZR ?_ ?_ <;> intro hb <;> (try simp only [hb]) <;> have hq := hb <;> try simp only [HQ] at hq)) <;> try simp only [Go.AM.SS, Nat.reduceAdd, Nat.reduceMul, Nat.reduceSub, ↓reduceIte, Nat.reduceEqDiff, Nat.reduceLT, Nat.reduceLeDiff, reduceCtorEq, Int.reduceBEq, Int.reduceBNe, Nat.reduceBEq, Int.reduceEq, Int.reduceToNat, Int.reduceLE, Int.reduceLT, Nat.reduceDiv, Int.reduceAdd, Int.reduceSub, Int.reduceMul, Int.reduceNeg, Int.reduceGT, Int.reduceGE, Nat.reduceMod, k34_71, s71.eq_1, s71_eq, k34_91, s91.eq_1, s91_eq, k34_92, s92.eq_1, s92_eq, k34_95, s95.eq_1, s95_eq, k34_96, s96.eq_1, s96_eq, k34_97, s97.eq_1, s97_eq, k34_98, s98.eq_1, s98_eq, s98_nil1, k34_99, s99.eq_1, s99_eq, s99_nil1, s99_nil2, s99_nil3, k34_100, s100.eq_1, s100_eq, k34_101, s101.eq_1, s101_eq, s101_nil1, ty_3, ty_4, ty_9, ty_22, ty_24, ty_26, ty_33, ty_44, ty_50, ty_95, bs_lit, bs_app, Bz, bs_beq, Bi, Bd, Be, bt_bs, List.length_append, List.append_nil, List.nil_append, List.cons_append, hV0, hO, hI, infoT, infoZ, gR, hG, g0, e48, i2, hE, hP, toInts, Vl, limbs_getD, Bool.false_eq_true])
 | with_reducible first
 | (refine hX _ _ ?_; clear hX X)
 | (refine ZG ?_; try clear hall all)
 | (refine hK _ _ ?_; clear hK K)
 | refine ZL ?_
 | (refine v_0 _ _ ?_; try clear v_0 V_0)
 | (refine v_1 _ _ ?_; try clear v_1 V_1)
 | (refine v_2 _ _ ?_; try clear v_2 V_2)
 | ((first | refine qr 19 [6,7,8] ?_ | refine qr 18 [6,19,20] ?_ | refine Zh (a := .seq (.region 8 _ _) _) [0,6,13] ?_ | refine qr 7 [0,1,5,6,9,13] ?_ | refine Zh (a := .seq (.region 4 _ _) _) [0,1,5,6,9] ?_ | refine Zh (a := .seq (.region 2 _ _) _) [0,1,5,6,9] ?_ | refine qr 1 [0,1,5,6,9,10] ?_ | refine qr 0 [0,1,5,6] ?_); intro V_0 v_0)
 | ((first | refine qr 14 [6,7,8] ?_ | refine Zh (a := .seq (.region 12 _ _) _) [0,1,5,6,14,16] ?_ | refine qr 11 [0,1,5,6,14,16] ?_ | refine qr 10 [0,1,5,6,14] ?_ | refine qr 16 [0,5,6,13,17] ?_ | refine qr 15 [0,5,6,9,13,84] ?_ | refine qr 9 [0,1,5,6,9,13,51,52] ?_ | refine qr 8 [0,1,5,6,9,13,51] ?_ | refine qr 6 [6,7,8] ?_ | refine qr 5 [0,1,5,6,9,41] ?_ | refine qr 4 [0,1,5,6,9,12] ?_ | refine qr 3 [6,7,8] ?_ | refine qr 2 [0,1,5,6,9,33] ?_); intro V_1 v_1)
 | ((first | refine qr 12 [0,1,5,6,14,16,64] ?_); intro V_2 v_2)
 | (refine ZM ?_; intro K hK)
 | (refine ZN ?_; intro all hall K hK)
 | (refine ZQ ?_ ?_)
 | (refine Zg ?_; simp only [↓reduceIte, Nat.reduceEqDiff])
 | refine ZS ?_ | refine ZT ?_ | refine ZU ?_ | refine ZV ?_ | refine ZW ?_ | refine ZX ?_ | refine Ze ?_ | refine Zf ?_)
  all_goals try clear v_2 V_2
  all_goals try clear v_1 V_1
  all_goals try clear v_0 V_0
  all_goals (try simp only [inR])
  all_goals first
    | omega
    | exact ⟨⟨ga, gl⟩, ⟨Ml _, len4 (Nat.pow_lt_pow_right (by decide) (by omega))⟩, Nat.pow_le_pow_right (by decide) (by omega)⟩
    | exact ⟨hn, ⟨Wl _ _, Wl _ _, Wl _ _, Wl _ _⟩, hPD⟩
    | exact ⟨hn, inf_isD n⟩
    | exact ⟨by rw [List.all_cons, ga]; rfl, by omega⟩
    | exact ⟨⟨Ml _, by omega⟩, ⟨Ml _, by decide +kernel⟩, by rw [sz_limbs]; omega, by rw [sz_limbs]; decide +kernel⟩
    | (rw [q0.1, q0.2.1, q0.2.2, (rnd_zero (y := 1) hz).1, (rnd_zero (y := 1) hz).2, (rnd_zero (y := 10 ^ (-E).toNat) (show dv l * 10 ^ E.toNat = 0 by rw [hz, Nat.zero_mul])).1, (rnd_zero (y := 10 ^ (-E).toNat) (show dv l * 10 ^ E.toNat = 0 by rw [hz, Nat.zero_mul])).2]; exact ⟨rfl, rfl, rfl⟩)
    | exact ⟨⟨Ml _, by omega⟩, by omega, by omega⟩
    | exact ⟨⟨Ml _, by omega⟩, ⟨Ml _, by omega⟩, hz0, by rw [sz_limbs]; omega, by rw [sz_limbs]; omega⟩
    | (rw [q1.1, q1.2.1, q1.2.2]; exact ⟨rfl, rfl, rfl⟩)
    | (simp only [wk40]; done)
    | skip
theorem sound_34 : Sound Tryz.prog 34 .body (norm s34) := by
  refine sb Tryz.func34 rfl (by kernel_rfl) G34_ok (by kernel_rfl) fun ds p r hs hp => ?_
  unfold s34 at hs
  split at hs
  · cases hs; exact ⟨Nat.le_of_ble_eq_true (by kernel_rfl), wk34 _ _ _ _ _ _ _ hp⟩
  · cases hs
end Go.Proofs.AMT
set_option maxRecDepth 20000
namespace Go.AM.LN
open Go Go.Lib
theorem gNum_len {s : Bool} {m : List UInt8} : (gNum s m).d.length ≤ m.length := by
  have h1 := gOff_len m
  have h2 := gPart_len (gOff m)
  have h3 := bare_len (gDig m ++ gPart (gOff m))
  rw [List.length_append] at h3
  unfold gNum
  split
  · simp [gBad]
  · split
    · dsimp only; omega
    · split
      · dsimp only; omega
      · simp [gBad]
theorem gIn_len (r : List UInt8) : (gIn r).length ≤ r.length := by
  unfold gIn; rw [List.length_take]; omega
theorem gWord_len {m : List UInt8} {c : Int} {q : Bool} {d : List UInt8} (h : gWord m = some (c, q, d)) : d.length ≤ m.length := by
  unfold gWord at h
  split at h
  · cases h; simp
  · split at h
    · cases h
    · dsimp only at h
      have hl : (if hasPrefix m wNan = true then m.drop 3 else m.drop 4).length ≤ m.length := by split <;> (rw [List.length_drop]; omega)
      generalize (if hasPrefix m wNan = true then m.drop 3 else m.drop 4) = r at *
      by_cases h0 : r = []
      · rw [if_pos h0] at h; cases h; simp
      · rw [if_neg h0] at h
        by_cases hp : gPar r = true
        · rw [if_pos hp] at h
          cases h
          have := gIn_len r
          have := bare_len (gIn r)
          omega
        · rw [if_neg hp] at h; cases h
theorem gCut_b {l : List UInt8} (h : (gCut l).e = 0) : (gCut l).d.length ≤ 4000 ∧ -1000000000 ≤ (gCut l).x ∧ (gCut l).x ≤ 1000000000 := by
  obtain ⟨h1, h2⟩ := gCut_ok h
  refine ⟨?_, ?_⟩
  · unfold gCut
    rw [if_neg (by omega)]
    have hs := sgnR_len l
    cases hw : gWord ((sgnR l).map lowB) with
    | none =>
      have := gNum_len (s := sgnN l) (m := sgnR l)
      dsimp only; omega
    | some v =>
      obtain ⟨c, q, d⟩ := v
      have := gWord_len hw
      rw [List.length_map] at this
      dsimp only; omega
  · rcases h2 with ⟨_, _, _, h3, h4⟩ | ⟨_, _, _, h3⟩ | ⟨_, _, h3⟩ <;> omega
def rdE (n r : Int) (l : List UInt8) : Int := if okR n r then (if (gCut l).e = 0 then mkE n r (gCut l).c (gCut l).s (gCut l).q (gCut l).d (gCut l).x else (gCut l).e) else 1
def rdV (n r : Int) (l : List UInt8) : Nat := if (gCut l).e = 0 then mkV n r (gCut l).c (gCut l).s (gCut l).q (gCut l).d (gCut l).x else 0
def rdF (n r : Int) (l : List UInt8) : Int := if (gCut l).e = 0 then mkF n r (gCut l).c (gCut l).s (gCut l).q (gCut l).d (gCut l).x else 0
theorem rd_no {n r : Int} {l : List UInt8} (h : okR n r = false) : rdE n r l = 1 ∧ rdV n r l = 0 ∧ rdF n r l = 0 := by
  refine ⟨by unfold rdE; rw [h]; rfl, ?_, ?_⟩
  · unfold rdV; split
    · exact (mk_no h).2.1
    · rfl
  · unfold rdF; split
    · exact (mk_no h).2.2
    · rfl
theorem rd_bad {n r : Int} {l : List UInt8} (h : okR n r = true) (he : ¬ (gCut l).e = 0) : rdE n r l = (gCut l).e ∧ rdV n r l = 0 ∧ rdF n r l = 0 := by
  unfold rdE rdV rdF
  rw [h, if_neg he, if_neg he, if_neg he]
  exact ⟨rfl, rfl, rfl⟩
theorem rd_ok {n r : Int} {l : List UInt8} (h : okR n r = true) (he : (gCut l).e = 0) : rdE n r l = mkE n r (gCut l).c (gCut l).s (gCut l).q (gCut l).d (gCut l).x ∧ rdV n r l = mkV n r (gCut l).c (gCut l).s (gCut l).q (gCut l).d (gCut l).x ∧ rdF n r l = mkF n r (gCut l).c (gCut l).s (gCut l).q (gCut l).d (gCut l).x := by
  unfold rdE rdV rdF
  rw [h, if_pos he, if_pos he, if_pos he]
  exact ⟨rfl, rfl, rfl⟩
end Go.AM.LN
set_option maxRecDepth 20000
namespace Go.Proofs.AMT
open Go.AM Go.AM.LN
attribute [local congr] bindO_congr bindS_congr bindG_congr awpOps_congr aOne_congr awp_congr aCond_congr awpD_congr dOne_congr keysB_congr nOne_congr thenP_congr blockP_congr Chk_congr Brk_congr
noncomputable def s32 : Cs := fun ds => match ds with
  | [.v (.int .i64 n), .v (.int .i64 r), .v (.string s)] => some (s.size ≤ 20000, .many [.v (.agg #[.int .u64 (w4 (rdV n r s.data.toList) 0), .int .u64 (w4 (rdV n r s.data.toList) 1), .int .u64 (w4 (rdV n r s.data.toList) 2), .int .u64 (w4 (rdV n r s.data.toList) 3)]), .v (.int .i64 (rdF n r s.data.toList)), .v (.int .i64 (rdE n r s.data.toList))])
  | _ => none
theorem s32_eq (n : Int) (r : Int) (s : ByteArray) : norm s32 [.v (.int .i64 n), .v (.int .i64 r), .v (.string s)] = s32 [.v (.int .i64 n), .v (.int .i64 r), .v (.string s)] := rfl
noncomputable def G32 : Gam := [(34, .body, norm s34), (91, .body, norm s91), (92, .body, norm s92), (93, .body, norm s93)]
theorem G32_ok : Gk Tryz.prog G32 := Gc sound_34 (Gc sound_91 (Gc sound_92 (Gc sound_93 Gn)))
theorem k32_34 : lk G32 34 = some (.body, norm s34) := rfl
theorem k32_91 : lk G32 91 = some (.body, norm s91) := rfl
theorem k32_92 : lk G32 92 = some (.body, norm s92) := rfl
theorem k32_93 : lk G32 93 = some (.body, norm s93) := rfl
theorem wk32 (n : Int) (r : Int) (s : ByteArray) (hp : s.size ≤ 20000) : awp ty G32 (code Tryz.f32) (retP ty Tryz.f32.results.toList (.many [.v (.agg #[.int .u64 (w4 (rdV n r s.data.toList) 0), .int .u64 (w4 (rdV n r s.data.toList) 1), .int .u64 (w4 (rdV n r s.data.toList) 2), .int .u64 (w4 (rdV n r s.data.toList) 3)]), .v (.int .i64 (rdF n r s.data.toList)), .v (.int .i64 (rdE n r s.data.toList))])) (entry 0 [.v (.int .i64 n), .v (.int .i64 r), .v (.string s)]) [] := by
  unfold code
  simp only [Tryz.f32, Option.getD_some]
  obtain ⟨l, rfl⟩ : ∃ l, s = bs l := ⟨_, Bt s⟩
  rw [Bz] at hp
  rw [Bd]
  have hV0 : V4 0 0 0 0 = 0 := rfl
  have hO := okB0 n
  have hc : ¬ (1 ≤ n ∧ n ≤ 6) ∨ ((1 ≤ n ∧ n ≤ 6) ∧ ¬ (0 ≤ r ∧ r ≤ 4)) ∨ ((1 ≤ n ∧ n ≤ 6) ∧ 0 ≤ r ∧ r ≤ 4) := by omega
  rcases hc with hn | ⟨hn, hr⟩ | ⟨hn, hr⟩
  case' inl =>
    rw [(rd_no (okR_n hn)).1, (rd_no (okR_n hn)).2.1, (rd_no (okR_n hn)).2.2]
    rw [decide_eq_false hn] at hO
    have h12 : (1 ≤ n ∧ n ≤ 12) ∨ ¬ (1 ≤ n ∧ n ≤ 12) := by omega
    rcases h12 with h12 | h12
    all_goals first
      | have hI := infoV_in h12
      | have hI := infoV_out h12
    all_goals have gR : decide ((4 : Int) ≥ 5) = false := rfl
  case' inr.inl =>
    rw [(rd_no (okR_d hr)).1, (rd_no (okR_d hr)).2.1, (rd_no (okR_d hr)).2.2]
    rw [decide_eq_true hn] at hO
    have gR : (decide (r ≥ 0) && decide (r ≤ 4)) = false := by
      rw [Bool.and_eq_false_iff, decide_eq_false_iff_not, decide_eq_false_iff_not]; omega
    have hI := infoV_in (n := n) (by omega)
  case' inr.inr =>
    have hR := okR_y hn hr
    rw [decide_eq_true hn] at hO
    have gR : (decide (r ≥ 0) && decide (r ≤ 4)) = true := by rw [decide_eq_true (by omega : r ≥ 0), decide_eq_true (by omega : r ≤ 4)]; rfl
    have hI := infoV_in (n := n) (by omega)
  all_goals repeat' (first
 | ((with_reducible first | (refine ZA ?_; intro X hX) | (show awp _ _ _ _ (Kp _ _) _) | refine ZD ?_ | refine ZE ?_ | refine ZF ?_ | ((show Bg _ _ _ _ _); simp only [hall]) | (refine ZR ?_ ?_ <;> intro hb <;> (try simp only [hb]) <;> have hq := hb <;> try simp only [HQ] at hq)) <;> try simp only [Go.AM.SS, Nat.reduceAdd, Nat.reduceMul, Nat.reduceSub, ↓reduceIte, Nat.reduceEqDiff, Nat.reduceLT, Nat.reduceLeDiff, reduceCtorEq, Int.reduceBEq, Int.reduceBNe, Nat.reduceBEq, Int.reduceEq, Int.reduceToNat, Int.reduceLE, Int.reduceLT, Nat.reduceDiv, Int.reduceAdd, Int.reduceSub, Int.reduceMul, Int.reduceNeg, Int.reduceGT, Int.reduceGE, Nat.reduceMod, k32_34, s34.eq_1, s34_eq, k32_91, s91.eq_1, s91_eq, k32_92, s92.eq_1, s92_eq, k32_93, s93.eq_1, s93_eq, ty_3, ty_4, ty_9, ty_22, ty_24, ty_26, ty_44, ty_95, bs_lit, bs_app, Bz, bs_beq, Bi, Bd, Be, bt_bs, List.length_append, List.append_nil, List.nil_append, List.cons_append, hV0, hO, hI, infoT, infoZ, gR])
 | with_reducible first
 | (refine hX _ _ ?_; clear hX X)
 | (refine ZG ?_; try clear hall all)
 | (refine hK _ _ ?_; clear hK K)
 | refine ZL ?_
 | (refine v_0 _ _ ?_; try clear v_0 V_0)
 | (refine v_1 _ _ ?_; try clear v_1 V_1)
 | ((first | refine qr 7 [6,7,8] ?_ | refine Zh (a := .seq (.region 5 _ _) _) [0,1,6,11] ?_ | refine qr 4 [0,1,6,11,12] ?_ | refine Zh (a := .seq (.region 1 _ _) _) [0,1,2,6] ?_ | refine qr 0 [0,1,2,6] ?_); intro V_0 v_0)
 | ((first | refine qr 6 [6,7,8] ?_ | refine qr 5 [0,1,6,11,12,33] ?_ | refine qr 3 [6,7,8] ?_ | refine qr 2 [0,1,2,6,25] ?_ | refine qr 1 [0,1,2,6,10] ?_); intro V_1 v_1)
 | (refine ZM ?_; intro K hK)
 | (refine ZN ?_; intro all hall K hK)
 | (refine ZQ ?_ ?_)
 | refine ZT ?_ | refine ZU ?_ | refine ZW ?_)
  all_goals try clear v_1 V_1
  all_goals try clear v_0 V_0
  all_goals (try simp only [inR])
  all_goals first
    | omega
    | (simp only [wk40]; done)
    | (rw [(rd_bad hR hq).1, (rd_bad hR hq).2.1, (rd_bad hR hq).2.2]; simp [wk40]; done)
    | (have hq2 := gCut_b hq; exact ⟨by omega, by omega, by omega⟩)
    | (rw [(rd_ok hR (by assumption)).1, (rd_ok hR (by assumption)).2.1, (rd_ok hR (by assumption)).2.2]; exact ⟨rfl, rfl, rfl⟩)
    | skip
theorem sound_32 : Sound Tryz.prog 32 .body (norm s32) := by
  refine sb Tryz.func32 rfl (by kernel_rfl) G32_ok (by kernel_rfl) fun ds p r hs hp => ?_
  unfold s32 at hs
  split at hs
  · cases hs; exact ⟨Nat.le_of_ble_eq_true (by kernel_rfl), wk32 _ _ _ hp⟩
  · cases hs
end Go.Proofs.AMT
set_option maxRecDepth 20000
namespace Go.AM.LN
open Go Go.Lib
theorem cons_of_pos {l : List UInt8} (h : 0 < (l.length : Int)) : ∃ c r, l = c :: r := by
  cases l with
  | nil => simp at h
  | cons c r => exact ⟨c, r, rfl⟩
theorem u8_of {c k : UInt8} (h : (c.toNat : Int) = (k.toNat : Int)) : c = k := UInt8.toNat_inj.1 (by omega)
theorem rs_0 {l : List UInt8} (h : (l.length : Int) ≤ 0) : sgnN l = false ∧ sgnR l = l := by
  cases l with
  | nil => exact ⟨rfl, rfl⟩
  | cons c r => simp at h; omega
theorem rs_45 {l : List UInt8} (hl : 0 < (l.length : Int)) (h : ((l.getD 0 0).toNat : Int) = 45) : sgnN l = true ∧ sgnR l = l.drop 1 := by
  obtain ⟨c, r, rfl⟩ := cons_of_pos hl
  have hc : c = 45 := u8_of (k := 45) h
  subst hc
  exact ⟨(sgn_cons 45 r).1, (sgn_cons 45 r).2⟩
theorem rs_43 {l : List UInt8} (hl : 0 < (l.length : Int)) (h : ((l.getD 0 0).toNat : Int) = 43) : sgnN l = false ∧ sgnR l = l.drop 1 := by
  obtain ⟨c, r, rfl⟩ := cons_of_pos hl
  have hc : c = 43 := u8_of (k := 43) h
  subst hc
  exact ⟨(sgn_cons 43 r).1, (sgn_cons 43 r).2⟩
theorem rs_n {l : List UInt8} (hl : 0 < (l.length : Int)) (h : ¬ ((l.getD 0 0).toNat : Int) = 45) (h2 : ¬ ((l.getD 0 0).toNat : Int) = 43) : sgnN l = false ∧ sgnR l = l := by
  obtain ⟨c, r, rfl⟩ := cons_of_pos hl
  have h' : c ≠ 45 := fun hc => h (by subst hc; rfl)
  have h2' : c ≠ 43 := fun hc => h2 (by subst hc; rfl)
  rw [(sgn_cons c r).1, (sgn_cons c r).2, if_neg (by rintro (h | h); exact h' h; exact h2' h)]
  exact ⟨by simpa using h', rfl⟩
theorem drop_cons' {l : List UInt8} {k : Nat} (h : k < l.length) : l.drop k = l.getD k 0 :: l.drop (k + 1) := by
  rw [List.drop_eq_getElem_cons h]
  simp [h]
theorem take_snoc {l : List UInt8} {k : Nat} (h : k < l.length) : l.take (k + 1) = l.take k ++ [l.getD k 0] := by
  rw [List.take_succ]
  simp [h]
theorem getD_drop0 (l : List UInt8) (k : Nat) : (l.drop k).getD 0 0 = l.getD k 0 := by simp [List.getD]
theorem bare_step {l : List UInt8} {k : Nat} (hk : 0 < ((l.length - k : Nat) : Int)) (h : (((l.drop k).getD 0 0).toNat : Int) = 48) : bare (l.drop (k + 1)) = bare (l.drop k) := by
  rw [getD_drop0] at h
  rw [drop_cons' (show k < l.length by omega), bare_cons, if_pos (u8_of (k := 48) h)]
theorem bare_stop {l : List UInt8} {k : Nat} (hk : 0 < ((l.length - k : Nat) : Int)) (h : ¬ (((l.drop k).getD 0 0).toNat : Int) = 48) : bare (l.drop k) = l.drop k := by
  rw [getD_drop0] at h
  rw [drop_cons' (show k < l.length by omega), bare_cons, if_neg (fun hc => h (by rw [hc]; rfl))]
theorem bare_fin {l : List UInt8} {k : Nat} (hk : ((l.length - k : Nat) : Int) ≤ 0) : bare (l.drop k) = l.drop k := by
  rw [List.drop_eq_nil_of_le (by omega)]; rfl
theorem isDg_iff (c : UInt8) : isDg c = true ↔ 48 ≤ (c.toNat : Int) ∧ (c.toNat : Int) ≤ 57 := by
  unfold isDg; rw [decide_eq_true_eq]; omega
theorem isDg_lo {c : UInt8} (h : (c.toNat : Int) < 48) : isDg c = false := by
  rcases Bool.eq_false_or_eq_true (isDg c) with h1 | h1
  · have := (isDg_iff c).1 h1; omega
  · exact h1
theorem isDg_hi {c : UInt8} (h : 57 < (c.toNat : Int)) : isDg c = false := by
  rcases Bool.eq_false_or_eq_true (isDg c) with h1 | h1
  · have := (isDg_iff c).1 h1; omega
  · exact h1
theorem run_step {l : List UInt8} {k : Nat} (hk : (k : Int) < (l.length : Int)) (ha : (l.take k).all isDg = true) (h1 : 48 ≤ ((l.getD k 0).toNat : Int)) (h2 : ((l.getD k 0).toNat : Int) ≤ 57) : (l.take (k + 1)).all isDg = true := by
  rw [take_snoc (by omega), List.all_append, ha]
  simp only [List.all_cons, List.all_nil, Bool.and_true, Bool.true_and]
  exact (isDg_iff _).2 ⟨h1, h2⟩
theorem run_stop {l : List UInt8} {k : Nat} (ha : (l.take k).all isDg = true) (h : (l.length : Int) ≤ (k : Int) ∨ isDg (l.getD k 0) = false) : gDig l = l.take k ∧ gOff l = l.drop k := by
  have := gDig_app (l := l.take k) (r := l.drop k) ha (fun c hc => by
    rcases h with h | h
    · rw [List.drop_eq_nil_of_le (by omega)] at hc; cases hc
    · by_cases hk : k < l.length
      · rw [drop_cons' hk] at hc; cases hc; exact h
      · rw [List.drop_eq_nil_of_le (by omega)] at hc; cases hc)
  rwa [List.take_append_drop] at this
theorem digits_no {l : List UInt8} {k : Nat} (hk : (k : Int) < (l.length : Int)) (h : isDg (l.getD k 0) = false) : (!l.isEmpty && l.all isDg) = false := by
  rw [Bool.and_eq_false_iff]
  right
  rw [List.all_eq_false]
  refine ⟨l.getD k 0, ?_, by rw [h]; simp⟩
  have : k < l.length := by omega
  simp [this]
theorem digits_end {l : List UInt8} {k : Nat} (ha : (l.take k).all isDg = true) (hk : (l.length : Int) ≤ (k : Int)) : (!l.isEmpty && l.all isDg) = decide ((l.length : Int) > 0) := by
  rw [List.take_of_length_le (by omega)] at ha
  rw [ha, Bool.and_true]
  cases l with
  | nil => rfl
  | cons c r => simp
theorem all_getD {l : List UInt8} {k : Nat} (ha : l.all isDg = true) (hk : k < l.length) : 48 ≤ (l.getD k 0).toNat ∧ (l.getD k 0).toNat ≤ 57 := by
  refine isDg_t (List.all_eq_true.1 ha _ ?_)
  simp [hk]
theorem dv_take {l : List UInt8} {k : Nat} (hk : k < l.length) : dv (l.take (k + 1)) = 10 * dv (l.take k) + ((l.getD k 0).toNat - 48) := by
  rw [take_snoc hk, dv_snoc]
theorem num_len {l : List UInt8} {k j : Nat} (h : k + j ≤ l.length) : ((l.drop k).take j).length = j := by rw [List.length_take, List.length_drop]; omega
theorem num_lt {l : List UInt8} {k j : Nat} (ha : l.all isDg = true) (h : k + j ≤ l.length) (hj : j ≤ 18) : dv ((l.drop k).take j) < 10 ^ j ∧ 10 ^ j ≤ 1000000000000000000 ∧ 0 < 10 ^ j := by
  have h1 := dv_lt _ (drop_all (drop_all ha k).1 j).2
  rw [num_len h] at h1
  exact ⟨h1, Nat.le_trans (Nat.pow_le_pow_right (by decide) hj) (by decide), Nat.pow_pos (by decide)⟩
theorem num_step {l : List UInt8} {k j : Nat} (h : k + j < l.length) : dv ((l.drop k).take (j + 1)) = 10 * dv ((l.drop k).take j) + ((l.getD (k + j) 0).toNat - 48) := by
  rw [dv_take (by rw [List.length_drop]; omega)]
  congr 2
  simp [List.getD]
theorem num_fin {l : List UInt8} {k j : Nat} (h : k + j ≤ l.length) : dv (l.take k) * 10 ^ j + dv ((l.drop k).take j) = dv (l.take (k + j)) := by
  rw [take_add, dv_app, num_len h]
theorem j_pos {j : Nat} (h : 1000000000000000000 ≤ ((10 ^ j : Nat) : Int)) : 1 ≤ j := by
  rcases Nat.eq_zero_or_pos j with h0 | h0
  · subst h0; simp at h
  · exact h0
theorem j_lt {j : Nat} (h : ((10 ^ j : Nat) : Int) < 1000000000000000000) (hj : j ≤ 18) : j < 18 := by
  rcases Nat.lt_or_ge j 18 with h0 | h0
  · exact h0
  · have : j = 18 := by omega
    subst this; simp at h
theorem mul_len {x y L M : Nat} (h : (limbs x).length ≤ L) (hy : y < 2 ^ (64 * M)) : (limbs (x * y)).length ≤ L + M := by
  refine len_le_of ?_
  have h1 := lt_of_len (n := x) h
  rw [Nat.mul_add, Nat.pow_add]
  exact Nat.mul_lt_mul'' h1 hy
theorem blt_zeros : ∀ (n : Nat) (r : List UInt8), r.all isDg = true → r.length = n → Op.bytesLess r (List.replicate n 48) = false
  | 0, r, _, h => by
    have : r = [] := List.length_eq_zero_iff.1 h
    subst this; rfl
  | n + 1, [], _, h => by simp at h
  | n + 1, c :: r, ha, h => by
    simp only [List.all_cons, Bool.and_eq_true] at ha
    have hc := isDg_t ha.1
    have ih := blt_zeros n r ha.2 (by simpa using h)
    rw [List.replicate_succ, Op.bytesLess, ih, Bool.and_false, Bool.or_false]
    rw [decide_eq_false_iff_not, UInt8.lt_iff_toNat_lt]
    show ¬ c.toNat < 48
    omega
def two9 : List UInt8 := [50, 48, 48, 48, 48, 48, 48, 48, 48, 48]
theorem ten_lo {x : List UInt8} (ha : x.all isDg = true) (hh : x = [] ∨ ∃ c r, x = c :: r ∧ c ≠ 48) (hl : (x.length : Int) = 10) (hb : Op.bytesLess x two9 = true) :
    dv x = 1000000000 + ((x.getD 1 0).toNat - 48) * 100000000 + dv (x.drop 2) ∧ dv x < 2000000000 := by
  rcases hh with rfl | ⟨c, r, rfl, hc⟩
  · simp at hl
  · simp only [List.all_cons, Bool.and_eq_true] at ha
    have h1 := isDg_t ha.1
    have hr : r.length = 9 := by simp at hl; omega
    have hz := blt_zeros 9 r ha.2 hr
    have hc48 : c.toNat ≠ 48 := fun h => hc (UInt8.toNat_inj.1 h)
    have h2 : c.toNat = 49 := by
      have : (decide (c < 50) || (c == 50 && Op.bytesLess r (List.replicate 9 48))) = true := hb
      rw [hz, Bool.and_false, Bool.or_false, decide_eq_true_eq, UInt8.lt_iff_toNat_lt] at this
      have h3 : c.toNat < 50 := this
      omega
    cases r with
    | nil => simp at hr
    | cons e t =>
      have ht : t.length = 8 := by simpa using hr
      simp only [List.all_cons, Bool.and_eq_true] at ha
      have he := isDg_t ha.2.1
      have hv := dv_lt t ha.2.2
      rw [ht] at hv
      rw [dv_cons, dv_cons, List.length_cons, ht, h2]
      simp only [List.getD_cons_succ, List.getD_cons_zero, List.drop_succ_cons, List.drop_zero]
      omega
theorem ten_hi {x : List UInt8} (ha : x.all isDg = true) (hh : x = [] ∨ ∃ c r, x = c :: r ∧ c ≠ 48) (hl : (x.length : Int) = 10) (hb : Op.bytesLess x two9 = false) : 2000000000 ≤ dv x := by
  rcases hh with rfl | ⟨c, r, rfl, hc⟩
  · simp at hl
  · simp only [List.all_cons, Bool.and_eq_true] at ha
    have h1 := isDg_t ha.1
    have hr : r.length = 9 := by simp at hl; omega
    have hc48 : c.toNat ≠ 48 := fun h => hc (UInt8.toNat_inj.1 h)
    have h2 : 50 ≤ c.toNat := by
      have : (decide (c < 50) || (c == 50 && Op.bytesLess r (List.replicate 9 48))) = false := hb
      rw [Bool.or_eq_false_iff, decide_eq_false_iff_not, UInt8.lt_iff_toNat_lt] at this
      have h3 : ¬ c.toNat < 50 := this.1
      omega
    rw [dv_cons, hr, show (10 : Nat) ^ 9 = 1000000000 by decide]
    omega
theorem big_hi {x : List UInt8} (ha : x.all isDg = true) (hh : x = [] ∨ ∃ c r, x = c :: r ∧ c ≠ 48) (hl : 10 < (x.length : Int)) : 2000000000 ≤ dv x := by
  rcases hh with rfl | ⟨c, r, rfl, hc⟩
  · simp at hl
  · simp only [List.all_cons, Bool.and_eq_true] at ha
    have h1 := isDg_t ha.1
    have hc48 : c.toNat ≠ 48 := fun h => hc (UInt8.toNat_inj.1 h)
    have h2 := dv_ge (c := c) (r := r) (by omega)
    have h3 : 10 ^ 10 ≤ 10 ^ r.length := Nat.pow_le_pow_right (by decide) (by simp at hl; omega)
    omega
theorem rexp {l : List UInt8} (h : expOk l = true) : (sgnR l).all isDg = true ∧ (bare (sgnR l)).all isDg = true ∧ (bare (sgnR l) = [] ∨ ∃ c r, bare (sgnR l) = c :: r ∧ c ≠ 48) ∧
    (sgnN l = true → expV l = 0 - ((min (dv (bare (sgnR l))) 2000000000 : Nat) : Int)) ∧ (sgnN l = false → expV l = ((min (dv (bare (sgnR l))) 2000000000 : Nat) : Int)) := by
  have ha : (sgnR l).all isDg = true := by unfold expOk at h; rw [Bool.and_eq_true] at h; exact h.2
  refine ⟨ha, bare_all ha, bare_head _, fun hs => ?_, fun hs => ?_⟩
  · unfold expV; rw [if_pos h, hs, if_pos rfl, bare_dv]; omega
  · unfold expV; rw [if_pos h, hs, if_neg (by decide), bare_dv]
end Go.AM.LN
set_option maxRecDepth 20000
namespace Go.AM.LN
open Go Go.Lib
theorem pre_take {x p : List UInt8} : hasPrefix x p = true ↔ x.take p.length = p := by
  unfold hasPrefix
  rw [List.isPrefixOf_iff_prefix, List.prefix_iff_eq_take]
  exact ⟨fun h => h.symm, fun h => h.symm⟩
theorem pre_t3 {x : List UInt8} (h : x.take 3 = [110, 97, 110]) : hasPrefix x wNan = true := pre_take.2 h
theorem pre_f3 {x : List UInt8} (h : ¬ x.take 3 = [110, 97, 110]) : hasPrefix x wNan = false := by
  rcases Bool.eq_false_or_eq_true (hasPrefix x wNan) with h1 | h1
  · exact absurd (pre_take.1 h1) h
  · exact h1
structure WH (m a r : List UInt8) (q : Bool) : Prop where
  hr : r = a.drop 3
  no : ¬ m = wInf → ¬ m = wInfinity → ¬ a.take 3 = [110, 97, 110] → gWord m = none
  yes : ¬ m = wInf → ¬ m = wInfinity → a.take 3 = [110, 97, 110] → gWord m = gTail q r
theorem snan_cons (x : List UInt8) : hasPrefix (115 :: x) wSnan = hasPrefix x wNan ∧ hasPrefix (115 :: x) wNan = false := by
  unfold hasPrefix wSnan wNan
  simp [List.isPrefixOf]
theorem snan_ne {c : UInt8} {x : List UInt8} (h : c ≠ 115) : hasPrefix (c :: x) wSnan = false := by
  unfold hasPrefix wSnan
  have : ((115 : UInt8) == c) = false := by simpa using fun e => h e.symm
  simp [List.isPrefixOf, this]
theorem wh_s {x : List UInt8} : WH (115 :: x) x (x.drop 3) true := by
  obtain ⟨e1, e2⟩ := snan_cons x
  refine ⟨rfl, fun h1 h2 h3 => gw_o h1 h2 e2 (by rw [e1]; exact pre_f3 h3), fun h1 h2 h3 => ?_⟩
  rw [gw_s h1 h2 e2 (by rw [e1]; exact pre_t3 h3)]
  unfold trimPrefix
  rw [e1, pre_t3 h3]; rfl
theorem wh_n {m : List UInt8} (h : m = [] ∨ ∃ c x, m = c :: x ∧ c ≠ 115) : WH m m (m.drop 3) false := by
  have e1 : hasPrefix m wSnan = false := by
    rcases h with rfl | ⟨c, x, rfl, hc⟩
    · rfl
    · exact snan_ne hc
  refine ⟨rfl, fun h1 h2 h3 => gw_o h1 h2 (pre_f3 h3) e1, fun h1 h2 h3 => ?_⟩
  rw [gw_n h1 h2 (pre_t3 h3)]
  unfold trimPrefix
  rw [pre_t3 h3]; rfl
theorem par_len {r : List UInt8} (h : gPar r = true) : 3 ≤ r.length ∧ r.getD 0 0 = 40 ∧ r.getD (r.length - 1) 0 = 41 ∧ (!(gIn r).isEmpty && (gIn r).all isDg) = true := by
  have h0 : (!(gIn r).isEmpty && (gIn r).all isDg) = true := by
    unfold gPar at h
    rw [Bool.and_eq_true] at h
    exact h.2
  obtain ⟨e1, e2, e3⟩ := gPar_eq h
  have hl := congrArg List.length e1
  simp only [List.length_cons, List.length_append, List.length_nil] at hl
  have hp := List.length_pos_iff.2 e2
  refine ⟨by omega, by rw [e1]; rfl, ?_, h0⟩
  have hk : r.length - 1 = (gIn r).length + 1 := by omega
  rw [hk]
  have : (40 :: (gIn r ++ [41])).getD ((gIn r).length + 1) 0 = 41 := by simp
  rw [← e1] at this
  exact this
theorem par_mk {r : List UInt8} (h1 : 3 ≤ r.length) (h2 : r.getD 0 0 = 40) (h3 : r.getD (r.length - 1) 0 = 41) (h4 : (!(gIn r).isEmpty && (gIn r).all isDg) = true) : gPar r = true := by
  unfold gPar
  rw [h4, Bool.and_true, Bool.and_eq_true]
  cases r with
  | nil => simp at h1
  | cons c x =>
    constructor
    · have : c = 40 := by simpa using h2
      subst this
      simp [hasPrefix, List.isPrefixOf]
    · unfold hasSuffix
      rw [List.isSuffixOf_iff_suffix]
      have hx : x ≠ [] := by intro h; subst h; simp at h1
      refine ⟨x.dropLast, ?_⟩
      have hl : x.getLast hx = 41 := by
        rw [← h3, List.getLast_eq_getElem]
        simp only [List.length_cons, Nat.add_sub_cancel]
        have hp := List.length_pos_iff.2 hx
        have e : (c :: x).getD x.length 0 = (c :: x).getD ((x.length - 1) + 1) 0 := by rw [Nat.sub_add_cancel hp]
        rw [e, List.getD_cons_succ, List.getD_eq_getElem?_getD, List.getElem?_eq_getElem (by omega)]
        rfl
      have := List.dropLast_concat_getLast hx
      rw [hl] at this
      exact this
section
variable {q : Bool} {r : List UInt8}
theorem rt_f (h : ¬ r = []) (hp : ¬ gPar r = true) : gTail q r = none := by unfold gTail; rw [if_neg h, if_neg hp]
theorem rt_len (h : 0 < (r.length : Int)) (h1 : (r.length : Int) < 3) : gTail q r = none :=
  rt_f (fun e => by rw [e] at h; simp at h) (fun hp => by have := (par_len hp).1; omega)
theorem rt_open (h : 0 < (r.length : Int)) (h1 : ¬ ((r.getD 0 0).toNat : Int) = 40) : gTail q r = none :=
  rt_f (fun e => by rw [e] at h; simp at h) (fun hp => h1 (by rw [(par_len hp).2.1]; rfl))
theorem rt_shut (h : 0 < (r.length : Int)) (h1 : ¬ ((r.getD (r.length - 1) 0).toNat : Int) = 41) : gTail q r = none :=
  rt_f (fun e => by rw [e] at h; simp at h) (fun hp => h1 (by rw [(par_len hp).2.2.1]; rfl))
theorem rt_dig (h : 0 < (r.length : Int)) (h1 : (!(gIn r).isEmpty && (gIn r).all isDg) = false) : gTail q r = none :=
  rt_f (fun e => by rw [e] at h; simp at h) (fun hp => by rw [(par_len hp).2.2.2] at h1; cases h1)
theorem rt_ok (h : 3 ≤ (r.length : Int)) (h2 : ((r.getD 0 0).toNat : Int) = 40) (h3 : ((r.getD (r.length - 1) 0).toNat : Int) = 41) (h4 : (!(gIn r).isEmpty && (gIn r).all isDg) = true) : gTail q r = some (3, q, bare (gIn r)) := by
  have hp := par_mk (by omega) (u8_of (k := 40) h2) (u8_of (k := 41) h3) h4
  unfold gTail
  rw [if_neg (fun e => by rw [e] at h; simp at h), if_pos hp]
theorem rt_nil (h : (r.length : Int) ≤ 0) : gTail q r = some (3, q, []) := by
  unfold gTail; rw [if_pos (List.length_eq_zero_iff.1 (by omega))]
end
theorem w_is2 {l m : List UInt8} {c : Int} {q : Bool} {d : List UInt8} (hm : wV l = gWord m) (h : gWord m = some (c, q, d)) : wOk l = true ∧ wC l = c ∧ wQ l = q ∧ wD l = d := w_some (hm.trans h)
theorem w_no2 {l m : List UInt8} (hm : wV l = gWord m) (h : gWord m = none) : wOk l = false ∧ wC l = 0 ∧ wQ l = false ∧ wD l = [] := w_none (hm.trans h)
end Go.AM.LN
set_option maxRecDepth 20000
namespace Go.AM.LN
open Go Go.Lib
theorem app_nil {W P : List UInt8} (h : W = []) (h2 : P = []) : W ++ P = [] := by rw [h, h2]; rfl
theorem app_ne1 {W P : List UInt8} (h : ¬ W = []) : ¬ W ++ P = [] := fun hh => h (List.append_eq_nil_iff.1 hh).1
theorem app_ne2 {W P : List UInt8} (h : ¬ P = []) : ¬ W ++ P = [] := fun hh => h (List.append_eq_nil_iff.1 hh).2
theorem nil_of {R : List UInt8} (h : (R.length : Int) ≤ 0) : R = [] := List.length_eq_zero_iff.1 (by omega)
theorem ne_of {R : List UInt8} (h : 0 < (R.length : Int)) : ¬ R = [] := fun e => by rw [e] at h; simp at h
theorem part_cases (O : List UInt8) : ((O = [] ∧ gPart O = [] ∧ gRest O = []) ∨ ((0 < O.length ∧ ¬ ((O.getD 0 0).toNat : Int) = 46) ∧ gPart O = [] ∧ gRest O = O) ∨ ((0 < O.length ∧ ((O.getD 0 0).toNat : Int) = 46) ∧ gPart O = gDig (O.drop 1) ∧ gRest O = gOff (O.drop 1))) := by
  cases O with
  | nil => exact .inl ⟨rfl, rfl, rfl⟩
  | cons c r =>
    by_cases hc : c = 46
    · subst hc
      have : hasPrefix (46 :: r) [46] = true := by simp [hasPrefix, List.isPrefixOf]
      refine .inr (.inr ⟨⟨by simp, rfl⟩, ?_, ?_⟩)
      · unfold gPart; rw [if_pos this]
      · unfold gRest; rw [if_pos this]
    · have h46 : ((46 : UInt8) == c) = false := by simpa using fun e => hc e.symm
      have : hasPrefix (c :: r) [46] = false := by simp [hasPrefix, List.isPrefixOf, h46]
      refine .inr (.inl ⟨⟨by simp, fun h => hc (u8_of (k := 46) h)⟩, ?_, ?_⟩)
      · unfold gPart; rw [this]; rfl
      · unfold gRest; rw [this]; rfl
theorem dg_a {l : List UInt8} (h : ¬ l = []) (h2 : l.isEmpty = false → l.all isDg = false) : dgOk l = false := by
  unfold dgOk
  have : l.isEmpty = false := by cases l <;> simp_all
  rw [h2 this]; rfl
theorem dg_b {l : List UInt8} (h : ¬ l = []) (h2 : ((l.getD 0 0).toNat : Int) = 48) : dgOk l = false := by
  unfold dgOk
  cases l with
  | nil => exact absurd rfl h
  | cons c r =>
    have : c = 48 := u8_of (k := 48) h2
    subst this
    simp
theorem dg_c {l : List UInt8} (h2 : l.isEmpty = false ∧ l.all isDg = true) (h3 : ¬ ((l.getD 0 0).toNat : Int) = 48) : dgOk l = true := by
  unfold dgOk
  cases l with
  | nil => simp at h2
  | cons c r =>
    rw [h2.2]
    have : ¬ c = 48 := fun e => h3 (by subst e; rfl)
    simp [this]
theorem w4_0 (i : Nat) : w4 0 i = 0 := wk40 i
theorem val_1 : val [1] = 1 := by decide +kernel
theorem lim_1 : lim [1] ∧ limbs 1 = [1] := ⟨by intro x hx; simp at hx; subst hx; omega, limbs_of_lt (by omega) (by omega)⟩
theorem w4_1 : w4 1 0 = 1 ∧ w4 1 1 = 0 ∧ w4 1 2 = 0 ∧ w4 1 3 = 0 := by decide +kernel
theorem read_awake : rdV 3 0 [48, 46, 49] = 1036831949 ∧ rdF 3 0 [48, 46, 49] = 8 ∧ rdE 3 0 [48, 46, 49] = 0 := by
  have hc : gCut [48, 46, 49] = ⟨1, false, false, [49], -1, 0⟩ := by decide +kernel
  have hR : okR 3 0 = true := by decide +kernel
  have hi := Go.Lib.itoa_length_le (-1) (by omega) (by omega)
  have hl : (gText 1 false false [49] (-1)).length ≤ 4000 := by
    have e : gText 1 false false [49] (-1) = [49] ++ (101 :: itoa (-1)) := by unfold gText; simp
    rw [e, List.length_append, List.length_cons]
    simp only [List.length_cons, List.length_nil]
    omega
  have hG : gGood 1 false false [49] (-1) = true := by
    unfold gGood
    rw [decide_eq_true hl]
    decide +kernel
  have h := rd_ok (n := 3) (r := 0) (l := [48, 46, 49]) hR (by rw [hc])
  rw [hc] at h
  dsimp only at h
  rw [h.1, h.2.1, h.2.2, mk_ok hR hG, (mk_1 hR hG).1, (mk_1 hR hG).2]
  have eX : tenX 11000 [49] (-1) = 1 := by decide +kernel
  have eY : tenY 11000 (-1) = 10 := by decide +kernel
  rw [eX, eY]
  refine ⟨by decide +kernel, by decide +kernel, rfl⟩
theorem w4_awake : w4 1036831949 0 = 1036831949 ∧ w4 1036831949 1 = 0 ∧ w4 1036831949 2 = 0 ∧ w4 1036831949 3 = 0 := by decide +kernel
end Go.AM.LN
namespace Go.Proofs.AMT
open Go Go.Shelf Go.RowKit Go.Sort Go.Lib Go.AM.LN
def lowN (l : List UInt8) (i j : Nat) : Int := (((if j < i then lowB (l.getD j 0) else l.getD j 0).toNat : Nat) : Int)
def iv : Value → Nat
  | .int _ n => n.toNat
  | _ => 0
structure SmI (w wr : World) (l : List UInt8) (i : Nat) : Prop where
  b : Below w.heap.size w wr
  lt : w.heap.size < wr.heap.size
  c : ∀ j, j < l.length → wr.cell? ⟨w.heap.size, j, none⟩ = some (.int .u8 (lowN l i j))
  f : ∀ j, j < l.length → wr.frozen? ⟨w.heap.size, j, none⟩ = false
theorem lowN_ne {l : List UInt8} {i j : Nat} (h : j ≠ i) : lowN l (i + 1) j = lowN l i j := by
  unfold lowN
  by_cases h1 : j < i
  · rw [if_pos h1, if_pos (by omega)]
  · rw [if_neg h1, if_neg (by omega)]
theorem lowN_eq {l : List UInt8} {i : Nat} : lowN l (i + 1) i = ((lowB (l.getD i 0)).toNat : Int) := by unfold lowN; rw [if_pos (by omega)]
theorem sm_same {w wr : World} {l : List UInt8} {i c : Nat} (h : SmI w wr l i) (hc : (l.getD i 0).toNat = c) (hn : ¬ (65 ≤ c ∧ c ≤ 90)) : SmI w wr l (i + 1) := by
  refine ⟨h.b, h.lt, fun j hj => ?_, h.f⟩
  by_cases e : j = i
  · subst e
    have h1 := h.c j hj
    rw [lowN_eq]
    unfold lowB
    rw [if_neg (by omega)]
    rw [show lowN l j j = ((l.getD j 0).toNat : Int) by unfold lowN; rw [if_neg (by omega)]] at h1
    exact h1
  · rw [lowN_ne e]; exact h.c j hj
theorem sm_up {w wr : World} {l : List UInt8} {i c : Nat} (h : SmI w wr l i) (hi : i < l.length) (hc : (l.getD i 0).toNat = c) (hn : 65 ≤ c ∧ c ≤ 90) : SmI w (wr.setCell ⟨w.heap.size, i, none⟩ (.int .u8 ((c : Int) + 32))) l (i + 1) := by
  refine ⟨h.b.setCell (Nat.le_refl _) _, by rw [World.size_setCell]; exact h.lt, fun j hj => ?_, fun j hj => by rw [World.frozen?_setCell]; exact h.f j hj⟩
  by_cases e : j = i
  · subst e
    rw [World.cell?_setCell_same _ _ _ (h.c j hj), lowN_eq]
    unfold lowB
    rw [if_pos (by omega)]
    have : ((l.getD j 0) + 32).toNat = c + 32 := by rw [UInt8.toNat_add, hc]; show (c + 32) % 256 = _; omega
    rw [this]; rfl
  · rw [World.cell?_setCell_other _ _ _ _ (by intro hh; exact e (by injection hh with _ h2; exact h2.symm)), lowN_ne e]
    exact h.c j hj
theorem sm_back {w wr : World} {l : List UInt8} {i cap : Nat} (h : SmI w wr l i) (hi : l.length ≤ i) : (convert 131 9 (.slice (some ⟨w.heap.size, 0, none⟩) l.length cap)).run Tryz.prog wr = .ok (.string ⟨(l.map lowB).toArray⟩) wr := by
  have := run_convert_bytes_back (P := Tryz.prog) wr 131 9 5 ⟨w.heap.size, 0, none⟩ cap (l.map lowB) Tryz.underlying131 Tryz.underlying5 Tryz.underlying9 (fun j hj => by
    rw [List.length_map] at hj
    rw [Lib.add_plain, Nat.zero_add, h.c j hj]
    unfold lowN
    rw [if_pos (by omega)]
    simp [hj])
  rw [List.length_map] at this
  exact this
set_option maxRecDepth 100000 in
theorem small_c (s : ByteArray) (hs : s.size ≤ 1000000) (w : World) :
    Calls Tryz.prog 120 #[.string s] w fun e w' => e = .returned (.string (bs (s.data.toList.map lowB))) ∧ Below w.heap.size w w' := by
  have hlen : s.data.toList.length = s.size := (Lib.size_eq s).symm
  obtain ⟨l, hl⟩ : ∃ l, s.data.toList = l := ⟨_, rfl⟩
  have hcv : ∀ W, (convert 9 131 (.string s)).run Tryz.prog W = _ := fun W => Lib.run_convert_string_bytes (P := Tryz.prog) W 9 131 5 s Tryz.underlying9 Tryz.underlying131 Tryz.underlying5
  obtain ⟨cap, hcap⟩ : ∃ cap, grownCap w s.size 0 5 = cap := ⟨_, rfl⟩
  have h0 : SmI w (Lib.bytesWorld w 5 s) l 0 := by
    refine ⟨below_bytes w 5 s, by rw [Lib.bytesWorld_size]; omega, fun j hj => ?_, fun j hj => ?_⟩
    · rw [Lib.bytesWorld_cell w 5 s j (by rw [← hlen, hl]; exact hj), hl]
      simp [lowN]
    · unfold World.frozen?
      rw [Lib.bytesWorld_at_new]
      have hsz : j < (Lib.bytesCells w 5 s).size := by
        unfold Lib.bytesCells
        simp
        rw [← hl, hlen] at hj
        have : s.data.size = s.size := rfl
        omega
      simp
      omega
  rw [hl] at hlen ⊢
  go_enter Tryz.func120, Tryz.ntmps120
  go_wp2
  go_loopw [9] (fun I wr => ∃ i : Nat, I = .int .i64 i ∧ i ≤ s.size ∧ SmI w wr l i) (fun I _ => s.size - iv I)
  case atStart => exact ⟨0, rfl, Nat.zero_le _, h0⟩
  case round =>
    obtain ⟨i, rfl, hi, hI⟩ := hrel
    have HI := Lib.hid hI
    have HH := Lib.hid h0
    clear h0
    by_cases hlt : i < s.size
    · have hc := hI.c i (by omega)
      have hf := hI.f i (by omega)
      have hc2 : lowN l i i = ((l.getD i 0).toNat : Int) := by unfold lowN; rw [if_neg (by omega)]
      rw [hc2] at hc
      obtain ⟨c, hcc⟩ : ∃ c : Nat, (l.getD i 0).toNat = c := ⟨_, rfl⟩
      have hcl := (l.getD i 0).toNat_lt
      rw [hcc] at hc hcl
      clear hI hc2
      go_wp2
      · exact ⟨⟨i + 1, rfl, by omega, sm_up HI.out (by omega) hcc (by omega)⟩, by simp only [iv]; omega⟩
      · exact ⟨⟨i + 1, rfl, by omega, sm_same HI.out hcc (by omega)⟩, by simp only [iv]; omega⟩
      · exact ⟨⟨i + 1, rfl, by omega, sm_same HI.out hcc (by omega)⟩, by simp only [iv]; omega⟩
    · have hbk := sm_back (cap := cap) hI (by omega)
      rw [hlen] at hbk
      clear hI
      go_wp2
      go_ret
      exact ⟨rfl, HI.out.b⟩
noncomputable def lSmall : Go.AM.Cs := fun ds => match ds with
  | [.v (.string s)] => some (s.size ≤ 1000000, .one (.v (.string (bs (s.data.toList.map lowB)))))
  | _ => none
theorem lSmall_eq (s : ByteArray) : Go.AM.norm lSmall [.v (.string s)] = some (s.size ≤ 1000000, .one (.v (.string (bs (s.data.toList.map lowB))))) := rfl
theorem snd_lSmall : Go.AM.Sound Tryz.prog 120 .body (Go.AM.norm lSmall) := by
  refine Go.AM.Sn ⟨Tryz.f120, Tryz.func120, by kernel_rfl, by kernel_rfl, fun ds p r hs hp w vs hT hr => ?_⟩
  unfold lSmall at hs
  split at hs
  · rename_i s
    cases hs
    match vs, hr with
    | [v0], ⟨h0, _⟩ =>
      have h0' : v0 = .string s := h0
      subst h0'
      refine (small_c s hp w).mono ?_
      rintro e w' ⟨rfl, hb⟩
      exact ⟨_, rfl, hb, rfl⟩
  · cases hs
end Go.Proofs.AMT
set_option maxRecDepth 20000
namespace Go.Proofs.AMT
open Go.AM Go.AM.LN
attribute [local congr] bindO_congr bindS_congr bindG_congr awpOps_congr aOne_congr awp_congr aCond_congr awpD_congr dOne_congr keysB_congr nOne_congr thenP_congr blockP_congr Chk_congr Brk_congr
noncomputable def s31 : Cs := fun ds => match ds with
  | [] => some (True, .one (.v (.bool true)))
  | _ => none
theorem s31_eq  : norm s31 [] = s31 [] := rfl
noncomputable def G31 : Gam := [(32, .body, norm s32)]
theorem G31_ok : Gk Tryz.prog G31 := Gc sound_32 Gn
theorem k31_32 : lk G31 32 = some (.body, norm s32) := rfl
theorem wk31  (hp : True) : awp ty G31 (code Tryz.f31) (retP ty Tryz.f31.results.toList (.one (.v (.bool true)))) (entry 0 []) [] := by
  unfold code
  simp only [Tryz.f31, Option.getD_some]
  obtain ⟨q1, q2, q3⟩ := read_awake
  obtain ⟨q4, q5, q6, q7⟩ := w4_awake
  all_goals repeat' (first
 | ((with_reducible first | (refine ZA ?_; intro X hX) | (show awp _ _ _ _ (Kp _ _) _) | refine ZD ?_ | refine ZE ?_ | refine ZF ?_ | ((show Bg _ _ _ _ _); simp only [hall]) | (refine ZR ?_ ?_ <;> intro hb <;> (try simp only [hb]) <;> have hq := hb <;> try simp only [HQ] at hq)) <;> try simp only [Go.AM.SS, Nat.reduceAdd, Nat.reduceMul, Nat.reduceSub, ↓reduceIte, Nat.reduceEqDiff, Nat.reduceLT, Nat.reduceLeDiff, reduceCtorEq, Int.reduceBEq, Int.reduceBNe, Nat.reduceBEq, Int.reduceEq, Int.reduceToNat, Int.reduceLE, Int.reduceLT, Nat.reduceDiv, Int.reduceAdd, Int.reduceSub, Int.reduceMul, Int.reduceNeg, Int.reduceGT, Int.reduceGE, Nat.reduceMod, k31_32, s32.eq_1, s32_eq, ty_3, ty_9, ty_22, ty_24, ty_26, q1, q2, q3, q4, q5, q6, q7, beq_self_eq_true, bs_lit, bs_app, Bz, bs_beq, Bi, Bd, Be, bt_bs, List.length_append, List.append_nil, List.nil_append, List.cons_append])
 | with_reducible first
 | (refine hX _ _ ?_; clear hX X)
 | (refine ZG ?_; try clear hall all)
 | (refine hK _ _ ?_; clear hK K)
 | refine ZL ?_
 | (refine v_0 _ _ ?_; try clear v_0 V_0)
 | ((first | refine qr 2 [0] ?_ | refine qr 1 [1,2,3] ?_ | refine qr 0 [] ?_); intro V_0 v_0)
 | (refine ZM ?_; intro K hK)
 | (refine ZN ?_; intro all hall K hK)
 | (refine ZQ ?_ ?_)
 | refine ZT ?_ | refine ZU ?_ | refine ZW ?_)
  all_goals try clear v_0 V_0
  all_goals (try simp only [inR])
  all_goals first
    | omega
    | skip
theorem sound_31 : Sound Tryz.prog 31 .body (norm s31) := by
  refine sb Tryz.func31 rfl (by kernel_rfl) G31_ok (by kernel_rfl) fun ds p r hs hp => ?_
  unfold s31 at hs
  split at hs
  · cases hs; exact ⟨Nat.le_of_ble_eq_true (by kernel_rfl), wk31  hp⟩
  · cases hs
noncomputable def s44 : Cs := fun ds => match ds with
  | [.v (.int .i64 n)] => some (True, .one (.v (.bool (decide (n ≥ 1) && decide (n ≤ 6)))))
  | _ => none
theorem s44_eq (n : Int) : norm s44 [.v (.int .i64 n)] = s44 [.v (.int .i64 n)] := rfl
noncomputable def G44 : Gam := []
theorem G44_ok : Gk Tryz.prog G44 := Gn
theorem wk44 (n : Int) (hp : True) : awp ty G44 (code Tryz.f44) (retP ty Tryz.f44.results.toList (.one (.v (.bool (decide (n ≥ 1) && decide (n ≤ 6)))))) (entry 0 [.v (.int .i64 n)]) [] := by
  unfold code
  simp only [Tryz.f44, Option.getD_some]
  all_goals repeat' (first
 | ((with_reducible first | (refine ZA ?_; intro X hX) | (show awp _ _ _ _ (Kp _ _) _) | refine ZD ?_ | refine ZE ?_ | refine ZF ?_ | ((show Bg _ _ _ _ _); simp only [hall]) | (refine ZR ?_ ?_ <;> intro hb <;> (try simp only [hb]) <;> have hq := hb <;> try simp only [HQ] at hq)) <;> try simp only [Go.AM.SS, Nat.reduceAdd, Nat.reduceMul, Nat.reduceSub, ↓reduceIte, Nat.reduceEqDiff, Nat.reduceLT, Nat.reduceLeDiff, reduceCtorEq, Int.reduceBEq, Int.reduceBNe, Nat.reduceBEq, Int.reduceEq, Int.reduceToNat, Int.reduceLE, Int.reduceLT, Nat.reduceDiv, Int.reduceAdd, Int.reduceSub, Int.reduceMul, Int.reduceNeg, Int.reduceGT, Int.reduceGE, Nat.reduceMod, ty_3])
 | with_reducible first
 | (refine hX _ _ ?_; clear hX X)
 | (refine ZG ?_; try clear hall all)
 | (refine hK _ _ ?_; clear hK K)
 | refine ZL ?_
 | (refine v_0 _ _ ?_; try clear v_0 V_0)
 | ((first | refine qr 1 [2] ?_ | refine qr 0 [0] ?_); intro V_0 v_0)
 | (refine ZM ?_; intro K hK)
 | (refine ZN ?_; intro all hall K hK)
 | (refine ZQ ?_ ?_)
 | refine ZT ?_ | refine ZU ?_ | refine ZW ?_)
  all_goals try clear v_0 V_0
  all_goals (first | rfl | (simp [hb]; done) | skip)
theorem sound_44 : Sound Tryz.prog 44 .body (norm s44) := by
  refine sb Tryz.func44 rfl (by kernel_rfl) G44_ok (by kernel_rfl) fun ds p r hs hp => ?_
  unfold s44 at hs
  split at hs
  · cases hs; exact ⟨Nat.le_of_ble_eq_true (by kernel_rfl), wk44 _ hp⟩
  · cases hs
noncomputable def s46 : Cs := fun ds => match ds with
  | [.v (.int .i64 n)] => some (True, .many [.v (infoV n), .v (.int .i64 (errV n))])
  | _ => none
theorem s46_eq (n : Int) : norm s46 [.v (.int .i64 n)] = s46 [.v (.int .i64 n)] := rfl
noncomputable def G46 : Gam := []
theorem G46_ok : Gk Tryz.prog G46 := Gn
noncomputable def rofR (n : Int) : Option (Prop × Res) := (lk (GamN ty 1000 bodies extB 10) 46).bind fun s => s.2 [.v (.int .i64 n)]
theorem rofR_1 : rofR 1 = some (True, .many [.v (infoT 1), .v (.int .i64 0)]) := by kernel_rfl
theorem rofR_2 : rofR 2 = some (True, .many [.v (infoT 2), .v (.int .i64 0)]) := by kernel_rfl
theorem rofR_3 : rofR 3 = some (True, .many [.v (infoT 3), .v (.int .i64 0)]) := by kernel_rfl
theorem rofR_4 : rofR 4 = some (True, .many [.v (infoT 4), .v (.int .i64 0)]) := by kernel_rfl
theorem rofR_5 : rofR 5 = some (True, .many [.v (infoT 5), .v (.int .i64 0)]) := by kernel_rfl
theorem rofR_6 : rofR 6 = some (True, .many [.v (infoT 6), .v (.int .i64 0)]) := by kernel_rfl
theorem rofR_7 : rofR 7 = some (True, .many [.v (infoT 7), .v (.int .i64 0)]) := by kernel_rfl
theorem rofR_8 : rofR 8 = some (True, .many [.v (infoT 8), .v (.int .i64 0)]) := by kernel_rfl
theorem rofR_9 : rofR 9 = some (True, .many [.v (infoT 9), .v (.int .i64 0)]) := by kernel_rfl
theorem rofR_10 : rofR 10 = some (True, .many [.v (infoT 10), .v (.int .i64 0)]) := by kernel_rfl
theorem rofR_11 : rofR 11 = some (True, .many [.v (infoT 11), .v (.int .i64 0)]) := by kernel_rfl
theorem rofR_12 : rofR 12 = some (True, .many [.v (infoT 12), .v (.int .i64 0)]) := by kernel_rfl
theorem wk46 (n : Int) (hp : ¬ (1 ≤ n ∧ n ≤ 12)) : awp ty G46 (code Tryz.f46) (retP ty Tryz.f46.results.toList (.many [.v infoZ, .v (.int .i64 1)])) (entry 0 [.v (.int .i64 n)]) [] := by
  unfold code
  simp only [Tryz.f46, Option.getD_some]
  have q1 : (n == 1) = false := by simp only [beq_eq_false_iff_ne, ne_eq]; omega
  have q2 : (n == 2) = false := by simp only [beq_eq_false_iff_ne, ne_eq]; omega
  have q3 : (n == 3) = false := by simp only [beq_eq_false_iff_ne, ne_eq]; omega
  have q4 : (n == 4) = false := by simp only [beq_eq_false_iff_ne, ne_eq]; omega
  have q5 : (n == 5) = false := by simp only [beq_eq_false_iff_ne, ne_eq]; omega
  have q6 : (n == 6) = false := by simp only [beq_eq_false_iff_ne, ne_eq]; omega
  have q7 : (n == 7) = false := by simp only [beq_eq_false_iff_ne, ne_eq]; omega
  have q8 : (n == 8) = false := by simp only [beq_eq_false_iff_ne, ne_eq]; omega
  have q9 : (n == 9) = false := by simp only [beq_eq_false_iff_ne, ne_eq]; omega
  have q10 : (n == 10) = false := by simp only [beq_eq_false_iff_ne, ne_eq]; omega
  have q11 : (n == 11) = false := by simp only [beq_eq_false_iff_ne, ne_eq]; omega
  have q12 : (n == 12) = false := by simp only [beq_eq_false_iff_ne, ne_eq]; omega
  all_goals repeat' (first
 | ((with_reducible first | (refine ZA ?_; intro X hX) | (show awp _ _ _ _ (Kp _ _) _) | refine ZD ?_ | refine ZE ?_ | refine ZF ?_ | ((show Bg _ _ _ _ _); simp only [hall]) | (refine ZR ?_ ?_ <;> intro hb <;> (try simp only [hb]) <;> have hq := hb <;> try simp only [HQ] at hq)) <;> try simp only [Go.AM.SS, Nat.reduceAdd, Nat.reduceMul, Nat.reduceSub, ↓reduceIte, Nat.reduceEqDiff, Nat.reduceLT, Nat.reduceLeDiff, reduceCtorEq, Int.reduceBEq, Int.reduceBNe, Nat.reduceBEq, Int.reduceEq, Int.reduceToNat, Int.reduceLE, Int.reduceLT, Nat.reduceDiv, Int.reduceAdd, Int.reduceSub, Int.reduceMul, Int.reduceNeg, Int.reduceGT, Int.reduceGE, Nat.reduceMod, ty_3, ty_4, ty_9, ty_62, ty_75, q1, q2, q3, q4, q5, q6, q7, q8, q9, q10, q11, q12])
 | with_reducible first
 | (refine hX _ _ ?_; clear hX X)
 | (refine ZG ?_; try clear hall all)
 | (refine hK _ _ ?_; clear hK K)
 | refine ZL ?_
 | (refine v_0 _ _ ?_; try clear v_0 V_0)
 | (refine v_1 _ _ ?_; try clear v_1 V_1)
 | (refine v_2 _ _ ?_; try clear v_2 V_2)
 | ((first | refine qr 35 [2,3] ?_ | refine qr 34 [2,4] ?_ | refine Zh (a := .seq (.region 26 _ _) _) [2,4,5] ?_ | refine qr 25 [0,2,4,5] ?_ | refine Zh (a := .seq (.region 2 _ _) _) [0,2,4] ?_ | refine qr 1 [0,2,4] ?_ | refine qr 0 [0,2] ?_); intro V_0 v_0)
 | ((first | refine qr 28 [2,4,5] ?_ | refine qr 27 [2,4] ?_ | refine qr 31 [2,4,5,90] ?_ | refine qr 30 [2,4,5] ?_ | refine qr 26 [0,2,4,5,64] ?_ | refine qr 3 [2,3] ?_ | refine Zh (a := .seq (.region 22 _ _) _) [0,2,4,54] ?_ | refine Zh (a := .seq (.region 19 _ _) _) [0,2,4,8,47] ?_ | refine Zh (a := .seq (.region 16 _ _) _) [0,2,4,8,40] ?_ | refine qr 14 [0,2,4,8,35] ?_ | refine qr 12 [0,2,4,8,30] ?_ | refine qr 10 [0,2,4,8,25] ?_ | refine qr 8 [0,2,4,8,20] ?_ | refine qr 6 [0,2,4,8,15] ?_ | refine qr 4 [0,2,4,8,10] ?_ | refine qr 2 [0,2,4,8] ?_); intro V_1 v_1)
 | ((first | refine qr 22 [0,2,4,8,54] ?_ | refine qr 19 [0,2,4,8,47] ?_ | refine qr 16 [0,2,4,8,40] ?_); intro V_2 v_2)
 | (refine ZM ?_; intro K hK)
 | (refine ZN ?_; intro all hall K hK)
 | (refine ZQ ?_ ?_)
 | (refine Zg ?_; simp only [↓reduceIte, Nat.reduceEqDiff])
 | refine ZS ?_ | refine ZT ?_ | refine ZU ?_ | refine ZV ?_ | refine ZW ?_ | refine ZX ?_ | refine Ze ?_ | refine Zf ?_)
  all_goals try clear v_2 V_2
  all_goals try clear v_1 V_1
  all_goals try clear v_0 V_0
  all_goals rfl
noncomputable def s46w : Cs := fun ds => match ds with
  | [.v (.int .i64 n)] => some (¬ (1 ≤ n ∧ n ≤ 12), .many [.v infoZ, .v (.int .i64 1)])
  | _ => none
theorem sound_46w : Sound Tryz.prog 46 .body s46w := by
  refine sound_body Tryz.func46 (show Tryz.f46.body = some (code Tryz.f46) from rfl) (by kernel_rfl) tysOk G46_ok (drawOk_ok (by kernel_rfl) tysOk G46_ok) (by kernel_rfl) fun ds p r hs hp => ?_
  unfold s46w at hs
  split at hs
  · cases hs; exact ⟨Nat.le_of_ble_eq_true (by kernel_rfl), wk46 _ hp⟩
  · cases hs
theorem sound_46c : ∀ n : Int, 1 ≤ n ∧ n ≤ 12 → ∃ spec : Cs, Sound Tryz.prog 46 .body spec ∧ spec [.v (.int .i64 n)] = some (True, .many [.v (infoT n), .v (.int .i64 0)]) := by
  intro n hn
  have hg := (GamN_ok (fuel := 1000) (P := Tryz.prog) (by kernel_rfl) tysOk extB_ok extB_free bodies_ok bodies_some 10).1
  have h : rofR n = some (True, .many [.v (infoT n), .v (.int .i64 0)]) := by
    have hn' : n = 1 ∨ n = 2 ∨ n = 3 ∨ n = 4 ∨ n = 5 ∨ n = 6 ∨ n = 7 ∨ n = 8 ∨ n = 9 ∨ n = 10 ∨ n = 11 ∨ n = 12 := by omega
    rcases hn' with rfl | rfl | rfl | rfl | rfl | rfl | rfl | rfl | rfl | rfl | rfl | rfl
    · exact rofR_1
    · exact rofR_2
    · exact rofR_3
    · exact rofR_4
    · exact rofR_5
    · exact rofR_6
    · exact rofR_7
    · exact rofR_8
    · exact rofR_9
    · exact rofR_10
    · exact rofR_11
    · exact rofR_12
  unfold rofR at h
  obtain ⟨⟨fk, spec⟩, h1, h2⟩ := Option.bind_eq_some_iff.1 h
  have hs := hg 46 fk spec h1
  have hfk : fk = .body := by
    have : (lk (GamN ty 1000 bodies extB 10) 46).map (·.1) = some .body := by kernel_rfl
    rw [h1] at this
    exact Option.some.inj this
  subst hfk
  exact ⟨spec, hs, h2⟩
theorem sound_46 : Sound Tryz.prog 46 .body (norm s46) := by
  refine Sn ?_
  obtain ⟨fn, h1, h2, h3, h4⟩ := sound_46w
  refine ⟨fn, h1, h2, h3, fun ds p r hs hp w vs hr => ?_⟩
  unfold s46 at hs
  split at hs
  · rename_i n
    cases hs
    by_cases hn : 1 ≤ n ∧ n ≤ 12
    · obtain ⟨spec, ⟨fn', h1', h2', h3', h4'⟩, h5⟩ := sound_46c n hn
      rw [infoV_in hn, errV_in hn]
      exact h4' _ _ _ h5 trivial w vs hr
    · rw [infoV_out hn, errV_out hn]
      exact h4 _ _ _ rfl hn w vs hr
  · cases hs
noncomputable def s111 : Cs := fun ds => match ds with
  | [.sl .u64 a] => some (a.length ≤ 100000000, .one (.v (.int .i64 (sz a))))
  | _ => none
theorem s111_eq (a : List Int) : norm s111 [.sl .u64 a] = s111 [.sl .u64 a] := rfl
theorem s111_nil1  : norm s111 [.v (.slice none 0 0)] = s111 [.sl .u64 []] := rfl
noncomputable def G111 : Gam := []
theorem G111_ok : Gk Tryz.prog G111 := Gn
theorem wk111 (a : List Int) (hp : a.length ≤ 100000000) : awp ty G111 (code Tryz.f111) (retP ty Tryz.f111.results.toList (.one (.v (.int .i64 (sz a))))) (entry 0 [.sl .u64 a]) [] := by
  unfold code
  simp only [Tryz.f111, Option.getD_some]
  all_goals repeat' (first
 | ((with_reducible first | (refine ZA ?_; intro X hX) | (show awp _ _ _ _ (Kp _ _) _) | refine ZD ?_ | refine ZE ?_ | refine ZF ?_ | ((show Bg _ _ _ _ _); simp only [hall]) | (refine ZR ?_ ?_ <;> intro hb <;> (try simp only [hb]) <;> have hq := hb <;> try simp only [HQ] at hq)) <;> try simp only [Go.AM.SS, Nat.reduceAdd, Nat.reduceMul, Nat.reduceSub, ↓reduceIte, Nat.reduceEqDiff, Nat.reduceLT, Nat.reduceLeDiff, reduceCtorEq, Int.reduceBEq, Int.reduceBNe, Nat.reduceBEq, Int.reduceEq, Int.reduceToNat, Int.reduceLE, Int.reduceLT, Nat.reduceDiv, Int.reduceAdd, Int.reduceSub, Int.reduceMul, Int.reduceNeg, Int.reduceGT, Int.reduceGE, Nat.reduceMod, ty_3, ty_22, ty_50])
 | with_reducible first
 | (refine hX _ _ ?_; clear hX X)
 | (refine ZG ?_; try clear hall all)
 | (refine hK _ _ ?_; clear hK K)
 | refine ZL ?_
 | (refine v_0 _ _ ?_; try clear v_0 V_0)
 | (refine v_1 _ _ ?_; try clear v_1 V_1)
 | (refine v_2 _ _ ?_; try clear v_2 V_2)
    | (with_reducible refine awp_lp (σ := Nat) (fun n => n ≤ a.length ∧ ∀ i, n ≤ i → a.getD i 0 = 0) (fun n => [(0, .rd .u64 a), (3, .v (.int .i64 n))]) (fun _ => []) (fun n => n) a.length ?_ ?_ (fun s hs => ?_))
 | ((first | refine qr 4 [2] ?_ | refine qb 0 [3] ?_ | refine qr 1 [0,3] ?_ | refine qr 0 [0] ?_); intro V_0 v_0)
 | ((first | refine Zh (a := .seq (.region 2 _ _) _) [0,3] ?_); intro V_1 v_1)
 | ((first | refine qr 2 [0,3,15] ?_); intro V_2 v_2)
 | (refine ZM ?_; intro K hK)
 | (refine ZN ?_; intro all hall K hK)
 | (refine ZQ ?_ ?_)
 | (refine Zg ?_; simp only [↓reduceIte, Nat.reduceEqDiff])
 | refine ZS ?_ | refine ZT ?_ | refine ZU ?_ | refine ZV ?_ | refine ZW ?_ | refine ZX ?_ | refine ZY ?_ | refine ZZ ?_ | refine Za ?_ | refine Ze ?_ | refine Zf ?_)
  all_goals try clear v_2 V_2
  all_goals try clear v_1 V_1
  all_goals try clear v_0 V_0
  all_goals (try simp only [inR])
  · exact ⟨Nat.le_refl _, fun i hi => by simp [List.getD, List.getElem?_eq_none hi]⟩
  · with_reducible exact Ent.refl _ _
  · omega
  · omega
  · omega
  · refine ⟨s - 1, by (refine Eo [] rfl ?_ ?_ <;> simp only [Me, Sl, AvLe, lk, ↓reduceIte, Nat.reduceEqDiff, Option.isSome_some, and_self, and_true, true_and, reduceCtorEq, List.map_nil, List.map_cons, Option.some.injEq, AV.v.injEq, Value.int.injEq, Value.bool.injEq, AV.rd.injEq, AV.ow.injEq, AV.al.injEq, AV.ref.injEq] <;> omega), ⟨by omega, fun i hi => ?_⟩, by omega⟩
    by_cases h : s ≤ i
    · exact hs.2 i h
    · have : i = s - 1 := by omega
      subst this
      have e : ((s : Int) - 1).toNat = s - 1 := by omega
      rw [e] at hq
      exact hq
  · have e : ((s : Int) - 1).toNat = s - 1 := by omega
    rw [e] at hq
    rw [sz_eq s hs.1 hs.2 (.inr hq)]
  · rw [sz_eq s hs.1 hs.2 (.inl (by omega))]
theorem sound_111 : Sound Tryz.prog 111 .body (norm s111) := by
  refine sb Tryz.func111 rfl (by kernel_rfl) G111_ok (by kernel_rfl) fun ds p r hs hp => ?_
  unfold s111 at hs
  split at hs
  · cases hs; exact ⟨Nat.le_of_ble_eq_true (by kernel_rfl), wk111 _ hp⟩
  · cases hs
noncomputable def s47 : Cs := fun ds => match ds with
  | [.sl .u64 a] => some (lim a ∧ a.length ≤ 100000000, .one (.v (.int .i64 (blen (val a)))))
  | _ => none
theorem s47_eq (a : List Int) : norm s47 [.sl .u64 a] = s47 [.sl .u64 a] := rfl
theorem s47_nil1  : norm s47 [.v (.slice none 0 0)] = s47 [.sl .u64 []] := rfl
noncomputable def G47 : Gam := [(111, .body, norm s111), (112, .body, norm s112)]
theorem G47_ok : Gk Tryz.prog G47 := Gc sound_111 (Gc sound_112 Gn)
theorem k47_111 : lk G47 111 = some (.body, norm s111) := rfl
theorem k47_112 : lk G47 112 = some (.body, norm s112) := rfl
theorem wk47 (a : List Int) (hp : lim a ∧ a.length ≤ 100000000) : awp ty G47 (code Tryz.f47) (retP ty Tryz.f47.results.toList (.one (.v (.int .i64 (blen (val a)))))) (entry 0 [.sl .u64 a]) [] := by
  unfold code
  simp only [Tryz.f47, Option.getD_some]
  have za := sz_le a
  all_goals repeat' (first
 | ((with_reducible first | (refine ZA ?_; intro X hX) | (show awp _ _ _ _ (Kp _ _) _) | refine ZD ?_ | refine ZE ?_ | refine ZF ?_ | ((show Bg _ _ _ _ _); simp only [hall]) | (refine ZR ?_ ?_ <;> intro hb <;> (try simp only [hb]) <;> have hq := hb <;> try simp only [HQ] at hq)) <;> try simp only [Go.AM.SS, Nat.reduceAdd, Nat.reduceMul, Nat.reduceSub, ↓reduceIte, Nat.reduceEqDiff, Nat.reduceLT, Nat.reduceLeDiff, reduceCtorEq, Int.reduceBEq, Int.reduceBNe, Nat.reduceBEq, Int.reduceEq, Int.reduceToNat, Int.reduceLE, Int.reduceLT, Nat.reduceDiv, Int.reduceAdd, Int.reduceSub, Int.reduceMul, Int.reduceNeg, Int.reduceGT, Int.reduceGE, Nat.reduceMod, k47_111, s111.eq_1, s111_eq, s111_nil1, k47_112, s112.eq_1, s112_eq, ty_3, ty_22, ty_50])
 | with_reducible first
 | (refine hX _ _ ?_; clear hX X)
 | (refine ZG ?_; try clear hall all)
 | (refine hK _ _ ?_; clear hK K)
 | refine ZL ?_
 | (refine v_0 _ _ ?_; try clear v_0 V_0)
 | (refine v_1 _ _ ?_; try clear v_1 V_1)
 | ((first | refine qr 4 [2] ?_ | refine Zh (a := .seq (.region 2 _ _) _) [0,3] ?_ | refine qr 1 [0,3] ?_ | refine qr 0 [0] ?_); intro V_0 v_0)
 | ((first | refine qr 3 [2] ?_ | refine qr 2 [0,3,7] ?_); intro V_1 v_1)
 | (refine ZM ?_; intro K hK)
 | (refine ZN ?_; intro all hall K hK)
 | (refine ZQ ?_ ?_)
 | refine ZT ?_ | refine ZU ?_ | refine ZW ?_)
  all_goals try clear v_1 V_1
  all_goals try clear v_0 V_0
  all_goals (try simp only [inR])
  all_goals (try omega)
  · have h0 := (sz_zero hp.1).1 (by omega)
    rw [h0]; rfl
  all_goals have e : ((sz a : Int) - 1).toNat = sz a - 1 := by omega
  all_goals rw [e]
  all_goals have hg := Mg hp.1 (i := sz a - 1)
  · exact hg
  all_goals have h1 := blen_top hp.1 (by omega)
  all_goals have h2 : blen (a.getD (sz a - 1) 0).toNat ≤ 64 := blen_lt.2 (by omega)
  · omega
  · refine congrArg _ ?_
    omega
theorem sound_47 : Sound Tryz.prog 47 .body (norm s47) := by
  refine sb Tryz.func47 rfl (by kernel_rfl) G47_ok (by kernel_rfl) fun ds p r hs hp => ?_
  unfold s47 at hs
  split at hs
  · cases hs; exact ⟨Nat.le_of_ble_eq_true (by kernel_rfl), wk47 _ hp⟩
  · cases hs
noncomputable def s105 : Cs := fun ds => match ds with
  | [.sl .u64 a] => some (lim a ∧ a.length ≤ 100000000, .one (.fresh .u64 (limbs (val a))))
  | _ => none
theorem s105_eq (a : List Int) : norm s105 [.sl .u64 a] = s105 [.sl .u64 a] := rfl
theorem s105_nil1  : norm s105 [.v (.slice none 0 0)] = s105 [.sl .u64 []] := rfl
noncomputable def G105 : Gam := []
theorem G105_ok : Gk Tryz.prog G105 := Gn
theorem wk105 (a : List Int) (hp : lim a ∧ a.length ≤ 100000000) : awp ty G105 (code Tryz.f105) (retP ty Tryz.f105.results.toList (.one (.fresh .u64 (limbs (val a))))) (entry 0 [.sl .u64 a]) [] := by
  unfold code
  simp only [Tryz.f105, Option.getD_some]
  all_goals repeat' (first
 | ((with_reducible first | (refine ZA ?_; intro X hX) | (show awp _ _ _ _ (Kp _ _) _) | refine ZD ?_ | refine ZE ?_ | refine ZF ?_ | ((show Bg _ _ _ _ _); simp only [hall]) | (refine ZR ?_ ?_ <;> intro hb <;> (try simp only [hb]) <;> have hq := hb <;> try simp only [HQ] at hq)) <;> try simp only [Go.AM.SS, Nat.reduceAdd, Nat.reduceMul, Nat.reduceSub, ↓reduceIte, Nat.reduceEqDiff, Nat.reduceLT, Nat.reduceLeDiff, reduceCtorEq, Int.reduceBEq, Int.reduceBNe, Nat.reduceBEq, Int.reduceEq, Int.reduceToNat, Int.reduceLE, Int.reduceLT, Nat.reduceDiv, Int.reduceAdd, Int.reduceSub, Int.reduceMul, Int.reduceNeg, Int.reduceGT, Int.reduceGE, Nat.reduceMod, ty_3, ty_22, ty_50, aOne_append, bindP_some, spAppend, intSl, yInts, killE, namesT, names, List.map_cons, List.map_nil, toInts, List.nil_append, List.length_take])
 | with_reducible first
 | (refine hX _ _ ?_; clear hX X)
 | (refine ZG ?_; try clear hall all)
 | (refine hK _ _ ?_; clear hK K)
 | refine ZL ?_
 | (refine v_0 _ _ ?_; try clear v_0 V_0)
 | (refine v_1 _ _ ?_; try clear v_1 V_1)
 | (refine v_2 _ _ ?_; try clear v_2 V_2)
    | (with_reducible refine awp_lp (σ := Nat) (fun n => n ≤ a.length ∧ ∀ i, n ≤ i → a.getD i 0 = 0) (fun n => [(0, .rd .u64 a), (3, .v (.int .i64 n))]) (fun _ => []) (fun n => n) a.length ?_ ?_ (fun s hs => ?_))
 | ((first | refine qr 4 [2] ?_ | refine qb 0 [0,3] ?_ | refine qr 1 [0,3] ?_ | refine qr 0 [0] ?_); intro V_0 v_0)
 | ((first | refine Zh (a := .seq (.region 2 _ _) _) [0,3] ?_); intro V_1 v_1)
 | ((first | refine qr 2 [0,3,15] ?_); intro V_2 v_2)
 | (refine ZM ?_; intro K hK)
 | (refine ZN ?_; intro all hall K hK)
 | (refine ZQ ?_ ?_)
 | (refine Zg ?_; simp only [↓reduceIte, Nat.reduceEqDiff])
 | refine ZS ?_ | refine ZT ?_ | refine ZU ?_ | refine ZV ?_ | refine ZW ?_ | refine ZX ?_ | refine ZY ?_ | refine ZZ ?_ | refine Za ?_ | refine Ze ?_ | refine Zf ?_)
  all_goals try clear v_2 V_2
  all_goals try clear v_1 V_1
  all_goals try clear v_0 V_0
  all_goals (try simp only [inR])
  · exact ⟨Nat.le_refl _, fun i hi => by simp [List.getD, List.getElem?_eq_none hi]⟩
  · with_reducible exact Ent.refl _ _
  · omega
  · omega
  · omega
  · refine ⟨s - 1, by (refine Eo [] rfl ?_ ?_ <;> simp only [Me, Sl, AvLe, lk, ↓reduceIte, Nat.reduceEqDiff, Option.isSome_some, and_self, and_true, true_and, reduceCtorEq, List.map_nil, List.map_cons, Option.some.injEq, AV.v.injEq, Value.int.injEq, Value.bool.injEq, AV.rd.injEq, AV.ow.injEq, AV.al.injEq, AV.ref.injEq] <;> omega), ⟨by omega, fun i hi => ?_⟩, by omega⟩
    by_cases h : s ≤ i
    · exact hs.2 i h
    · have : i = s - 1 := by omega
      subst this
      have e : ((s : Int) - 1).toNat = s - 1 := by omega
      rw [e] at hq
      exact hq
  · omega
  · omega
  · have e : ((s : Int) - 1).toNat = s - 1 := by omega
    rw [e] at hq
    rw [← sz_eq s hs.1 hs.2 (.inr hq), Ts hp.1]
  · omega
  · omega
  · rw [← sz_eq s hs.1 hs.2 (.inl (by omega)), Ts hp.1]
theorem sound_105 : Sound Tryz.prog 105 .body (norm s105) := by
  refine sb Tryz.func105 rfl (by kernel_rfl) G105_ok (by kernel_rfl) fun ds p r hs hp => ?_
  unfold s105 at hs
  split at hs
  · cases hs; exact ⟨Nat.le_of_ble_eq_true (by kernel_rfl), wk105 _ hp⟩
  · cases hs
noncomputable def s39 : Cs := fun ds => match ds with
  | [.sl .u64 a, .v (.int .i64 n)] => some ((lim a ∧ a.length ≤ 40000000) ∧ 0 ≤ n ∧ n ≤ 1000000000, .one (.fresh .u64 (limbs (val a * 2 ^ n.toNat))))
  | _ => none
theorem s39_eq (a : List Int) (n : Int) : norm s39 [.sl .u64 a, .v (.int .i64 n)] = s39 [.sl .u64 a, .v (.int .i64 n)] := rfl
theorem s39_nil1  (n : Int) : norm s39 [.v (.slice none 0 0), .v (.int .i64 n)] = s39 [.sl .u64 [], .v (.int .i64 n)] := rfl
noncomputable def G39 : Gam := [(105, .body, norm s105)]
theorem G39_ok : Gk Tryz.prog G39 := Gc sound_105 Gn
theorem k39_105 : lk G39 105 = some (.body, norm s105) := rfl
theorem wk39 (a : List Int) (n : Int) (hp : (lim a ∧ a.length ≤ 40000000) ∧ 0 ≤ n ∧ n ≤ 1000000000) : awp ty G39 (code Tryz.f39) (retP ty Tryz.f39.results.toList (.one (.fresh .u64 (limbs (val a * 2 ^ n.toNat))))) (entry 0 [.sl .u64 a, .v (.int .i64 n)]) [] := by
  unfold code
  simp only [Tryz.f39, Option.getD_some]
  obtain ⟨k, rfl⟩ := Int.eq_ofNat_of_zero_le hp.2.1
  have hk : k = 64 * (k / 64) + k % 64 := by omega
  obtain ⟨w, hw⟩ : ∃ w, k / 64 = w := ⟨_, rfl⟩
  obtain ⟨t, ht⟩ : ∃ t, k % 64 = t := ⟨_, rfl⟩
  have hd : (k : Int).tdiv 64 = (w : Int) := by rw [Int.tdiv_eq_ediv_of_nonneg (by omega)]; omega
  have hm : (k : Int).tmod 64 = (t : Int) := by rw [Int.tmod_eq_emod_of_nonneg (by omega)]; omega
  have hmm : (t : Int) % 18446744073709551616 = (t : Int) := by omega
  have m1 : min t 64 = t := by omega
  have m2 : ((64 - (t : Int)) % 18446744073709551616).toNat = 64 - t := by omega
  have m3 : min (64 - t) 64 = 64 - t := by omega
  obtain ⟨N, hN⟩ : ∃ N, a.length + w + 1 = N := ⟨_, rfl⟩
  have mT : ((a.length : Int) + (w : Int) + 1).toNat = N := by omega
  rcases Nat.eq_zero_or_pos t with ht0 | ht0
  all_goals first
    | (have g5 : decide ((t : Int) > 0) = true := by simp only [decide_eq_true_eq]; omega)
    | (have g5 : decide ((t : Int) > 0) = false := by simp only [decide_eq_false_iff_not]; omega)
  all_goals repeat' (first
 | ((with_reducible first | (refine ZA ?_; intro X hX) | (refine ZB ?_; intro X hX) | (show awp _ _ _ _ (Kp _ _) _) | (refine hX _ _ _ _ ?_; clear hX X) | (refine ZC ?_; intro X hX) | refine ZD ?_ | refine ZE ?_ | refine ZF ?_ | ((show Bg _ _ _ _ _); simp only [hall]) | (refine ZR ?_ ?_ <;> intro hb <;> (try simp only [hb]) <;> have hq := hb <;> try simp only [HQ] at hq)) <;> try simp only [Go.AM.SS, Nat.reduceAdd, Nat.reduceMul, Nat.reduceSub, ↓reduceIte, Nat.reduceEqDiff, Nat.reduceLT, Nat.reduceLeDiff, reduceCtorEq, Int.reduceBEq, Int.reduceBNe, Nat.reduceBEq, Int.reduceEq, Int.reduceToNat, Int.reduceLE, Int.reduceLT, Nat.reduceDiv, Int.reduceAdd, Int.reduceSub, Int.reduceMul, Int.reduceNeg, Int.reduceGT, Int.reduceGE, Nat.reduceMod, k39_105, s105.eq_1, s105_eq, s105_nil1, ty_3, ty_22, ty_50, ty_75, List.length_replicate, hd, hm, hmm, mT, IntKind.bits, m1, m2, m3, g5])
 | with_reducible first
 | (refine hX _ _ ?_; clear hX X)
 | (refine ZI ?_; try clear hall all)
 | (refine ZJ ?_; kernel_rfl)
 | ((show clashK _ _ _ = true); kernel_rfl)
 | (refine ZG ?_; try clear hall all)
 | (refine ZH ?_; try clear hall all)
 | (refine hK _ _ ?_; clear hK K)
 | refine ZL ?_
 | (refine v_0 _ _ ?_; try clear v_0 V_0)
 | (refine v_1 _ _ ?_; try clear v_1 V_1)
 | (refine v_2 _ _ ?_; try clear v_2 V_2)
    | (with_reducible refine awp_lp (σ := Nat × List Int) (fun s => (s.1 ≤ a.length ∧ s.2.length = N) ∧ lim s.2 ∧ val s.2 = val (a.take s.1) * 2 ^ (64 * w + t)) (fun s => [(0, .rd .u64 a), (1, .v (.int .i64 k)), (5, .ow 208), (15, .v (.int .i64 a.length)), (16, .v (.int .i64 s.1))]) (fun s => [(208, .ints .u64 s.2, false)]) (fun s => a.length - s.1) (0, List.replicate N 0) ?_ ?_ (fun s hs => ?_))
 | ((first | refine qr 9 [4] ?_ | refine Zh (a := .seq (.region 2 _ _) _) [5] ?_ | refine qr 1 [0,1,5] ?_ | refine qr 0 [0,1] ?_); intro V_0 v_0)
 | ((first | refine qb 1 [0,1,5,15,16] ?_ | refine Zh (a := .cond (.tmp 17) _ _) [0,1,5,15,16] ?_ | refine qr 3 [0,1,5,15,16,17] ?_ | refine qr 2 [0,1,5,15,16] ?_); intro V_1 v_1)
 | ((first | refine qr 6 [0,1,5,6,15,16,43] ?_ | refine qr 5 [0,1,5,6,15,16] ?_ | refine qr 4 [0,1,5,6,15,16] ?_); intro V_2 v_2)
 | (refine ZM ?_; intro K hK)
 | (refine ZN ?_; intro all hall K hK)
 | (refine Da (id := 5) ?_ ?_; kernel_rfl; intro all hall K hK)
 | (refine ZO ?_ ?_; kernel_rfl; intro all hall K hK)
 | (refine ZQ ?_ ?_)
 | (refine ZK ?_; kernel_rfl)
 | (refine Zg ?_; simp only [↓reduceIte, Nat.reduceEqDiff])
 | refine ZS ?_ | refine ZT ?_ | refine ZU ?_ | refine ZV ?_ | refine ZW ?_ | refine ZX ?_ | refine ZY ?_ | refine ZZ ?_ | refine Za ?_ | refine Ze ?_ | refine Zf ?_)
  all_goals try clear v_2 V_2
  all_goals try clear v_1 V_1
  all_goals try clear v_0 V_0
  all_goals clear hmm m1 m2 m3 mT g5 hm hd
  all_goals (try simp only [inR])
  all_goals (try (rcases s with ⟨i, o⟩))
  all_goals (try (obtain ⟨ss, hs⟩ := hs))
  all_goals (try dsimp only at *)
  all_goals (try omega)
  · exact ⟨⟨Nat.zero_le _, by simp⟩, lim_rep _, by simp [val_rep, val]⟩
  · exact Ent.refl _ _
  · have e : ((i : Int) + (w : Int)).toNat = i + w := by omega
    have h1 := left_lt hp.1.1 hs.2
    rw [ht0, Nat.pow_zero, Nat.mul_one] at h1
    have h0 := getD_zero_of_lt hs.1 h1
    have h4 := Mg hp.1.1 (i := i)
    rw [e, h0, ht0]
    have h5 : a.getD i 0 * 2 ^ 0 % 18446744073709551616 = a.getD i 0 := by omega
    rw [h5, bits0 h4]
    have h6 := hs.2
    rw [ht0, Nat.add_zero] at h6
    exact ⟨(i + 1, o.set (i + w) (a.getD i 0)), (by (refine Eo [(208, 208)] rfl ?_ ?_ <;> simp only [Me, Sl, AvLe, lk, ↓reduceIte, Nat.reduceEqDiff, Option.isSome_some, and_self, and_true, true_and, reduceCtorEq, List.map_nil, List.map_cons, Option.some.injEq, AV.v.injEq, Value.int.injEq, Value.bool.injEq, AV.rd.injEq, AV.ow.injEq, AV.al.injEq, AV.ref.injEq] <;> omega)), ⟨⟨by dsimp only; omega, by simp; omega⟩, lim_set hs.1 h4 _, left_step0 hp.1.1 (by omega) h6 h0⟩, by dsimp only; omega⟩
  · exact ⟨hs.1, by omega⟩
  · have hi : i = a.length := by omega
    rw [hs.2, hi, List.take_length, hk, hw, ht]
  · exact ⟨⟨Nat.zero_le _, by simp⟩, lim_rep _, by simp [val_rep, val]⟩
  · exact Ent.refl _ _
  · have e : ((i : Int) + (w : Int)).toNat = i + w := by omega
    have h1 := left_lt hp.1.1 hs.2
    have e2 : ((i : Int) + (w : Int) + 1).toNat = i + w + 1 := by omega
    have h2 := low_word (V := 0) hs.1 h1 (show t ≤ 64 by omega)
    have h3 := Mg hs.1 (i := i + w)
    have h4 := Mg hp.1.1 (i := i)
    have h5 : o.getD (i + w + 1) 0 = 0 := getD_zero_of_lt hs.1 (Nat.lt_of_lt_of_le h1 (by rw [← Nat.pow_add]; exact Nat.pow_le_pow_right (by omega) (by omega)))
    rw [e, e2, or_low ⟨h3.1, h2⟩ h4 (by omega), castShr2 h4.1]
    have h6 : (o.getD (i + w) 0).toNat + (a.getD i 0).toNat * 2 ^ t % 18446744073709551616 < 18446744073709551616 := low_sum (by omega) h2
    have h7 : (a.getD i 0).toNat / 2 ^ (64 - t) < 18446744073709551616 := Nat.lt_of_le_of_lt (Nat.div_le_self _ _) (by omega)
    exact ⟨(i + 1, (o.set (i + w) (((o.getD (i + w) 0).toNat + (a.getD i 0).toNat * 2 ^ t % 18446744073709551616 : Nat) : Int)).set (i + w + 1) (((a.getD i 0).toNat / 2 ^ (64 - t) : Nat) : Int)), (by (refine Eo [(208, 208)] rfl ?_ ?_ <;> simp only [Me, Sl, AvLe, lk, ↓reduceIte, Nat.reduceEqDiff, Option.isSome_some, and_self, and_true, true_and, reduceCtorEq, List.map_nil, List.map_cons, Option.some.injEq, AV.v.injEq, Value.int.injEq, Value.bool.injEq, AV.rd.injEq, AV.ow.injEq, AV.al.injEq, AV.ref.injEq] <;> omega)), ⟨⟨by dsimp only; omega, by simp; omega⟩, lim_set (lim_set hs.1 (nat_lim h6) _) (nat_lim h7) _, left_step hp.1.1 (by omega) (by omega) hs.2 rfl h5⟩, by dsimp only; omega⟩
  · exact ⟨hs.1, by omega⟩
  · have hi : i = a.length := by omega
    rw [hs.2, hi, List.take_length, hk, hw, ht]
theorem sound_39 : Sound Tryz.prog 39 .body (norm s39) := by
  refine sb Tryz.func39 rfl (by kernel_rfl) G39_ok (by kernel_rfl) fun ds p r hs hp => ?_
  unfold s39 at hs
  split at hs
  · cases hs; exact ⟨Nat.le_of_ble_eq_true (by kernel_rfl), wk39 _ _ hp⟩
  · cases hs
noncomputable def s109 : Cs := fun ds => match ds with
  | [.sl .u64 a, .v (.int .i64 i)] => some (0 ≤ i, .one (.v (.int .u64 (a.getD i.toNat 0))))
  | _ => none
theorem s109_eq (a : List Int) (i : Int) : norm s109 [.sl .u64 a, .v (.int .i64 i)] = s109 [.sl .u64 a, .v (.int .i64 i)] := rfl
theorem s109_nil1  (i : Int) : norm s109 [.v (.slice none 0 0), .v (.int .i64 i)] = s109 [.sl .u64 [], .v (.int .i64 i)] := rfl
noncomputable def G109 : Gam := []
theorem G109_ok : Gk Tryz.prog G109 := Gn
theorem wk109 (a : List Int) (i : Int) (hp : 0 ≤ i) : awp ty G109 (code Tryz.f109) (retP ty Tryz.f109.results.toList (.one (.v (.int .u64 (a.getD i.toNat 0))))) (entry 0 [.sl .u64 a, .v (.int .i64 i)]) [] := by
  unfold code
  simp only [Tryz.f109, Option.getD_some]
  all_goals repeat' (first
 | ((with_reducible first | (refine ZA ?_; intro X hX) | (show awp _ _ _ _ (Kp _ _) _) | refine ZD ?_ | refine ZE ?_ | refine ZF ?_ | ((show Bg _ _ _ _ _); simp only [hall]) | (refine ZR ?_ ?_ <;> intro hb <;> (try simp only [hb]) <;> have hq := hb <;> try simp only [HQ] at hq)) <;> try simp only [Go.AM.SS, Nat.reduceAdd, Nat.reduceMul, Nat.reduceSub, ↓reduceIte, Nat.reduceEqDiff, Nat.reduceLT, Nat.reduceLeDiff, reduceCtorEq, Int.reduceBEq, Int.reduceBNe, Nat.reduceBEq, Int.reduceEq, Int.reduceToNat, Int.reduceLE, Int.reduceLT, Nat.reduceDiv, Int.reduceAdd, Int.reduceSub, Int.reduceMul, Int.reduceNeg, Int.reduceGT, Int.reduceGE, Nat.reduceMod, ty_3, ty_22, ty_50])
 | with_reducible first
 | (refine hX _ _ ?_; clear hX X)
 | (refine ZG ?_; try clear hall all)
 | (refine hK _ _ ?_; clear hK K)
 | refine ZL ?_
 | (refine v_0 _ _ ?_; try clear v_0 V_0)
 | (refine v_1 _ _ ?_; try clear v_1 V_1)
 | ((first | refine qr 3 [4] ?_ | refine Zh (a := .seq (.region 1 _ _) _) [0,1] ?_ | refine qr 0 [0,1] ?_); intro V_0 v_0)
 | ((first | refine qr 2 [4] ?_ | refine qr 1 [0,1,12] ?_); intro V_1 v_1)
 | (refine ZM ?_; intro K hK)
 | (refine ZN ?_; intro all hall K hK)
 | (refine ZQ ?_ ?_)
 | refine ZT ?_ | refine ZU ?_ | refine ZW ?_)
  all_goals try clear v_1 V_1
  all_goals try clear v_0 V_0
  all_goals (try simp only [inR])
  all_goals first
    | omega
    | rfl
    | (rw [getD_out (by omega)])
theorem sound_109 : Sound Tryz.prog 109 .body (norm s109) := by
  refine sb Tryz.func109 rfl (by kernel_rfl) G109_ok (by kernel_rfl) fun ds p r hs hp => ?_
  unfold s109 at hs
  split at hs
  · cases hs; exact ⟨Nat.le_of_ble_eq_true (by kernel_rfl), wk109 _ _ hp⟩
  · cases hs
noncomputable def s69 : Cs := fun ds => match ds with
  | [.sl .u64 a, .v (.int .i64 n)] => some ((lim a ∧ a.length ≤ 60000000) ∧ 0 ≤ n ∧ n ≤ 1000000000, .many [.fresh .u64 (limbs (val a / 2 ^ n.toNat)), .v (.bool (goneS a (n.toNat / 64) (n.toNat % 64) a.length))])
  | _ => none
theorem s69_eq (a : List Int) (n : Int) : norm s69 [.sl .u64 a, .v (.int .i64 n)] = s69 [.sl .u64 a, .v (.int .i64 n)] := rfl
theorem s69_nil1  (n : Int) : norm s69 [.v (.slice none 0 0), .v (.int .i64 n)] = s69 [.sl .u64 [], .v (.int .i64 n)] := rfl
noncomputable def G69 : Gam := [(105, .body, norm s105), (109, .body, norm s109)]
theorem G69_ok : Gk Tryz.prog G69 := Gc sound_105 (Gc sound_109 Gn)
theorem k69_105 : lk G69 105 = some (.body, norm s105) := rfl
theorem k69_109 : lk G69 109 = some (.body, norm s109) := rfl
theorem wk69 (a : List Int) (n : Int) (hp : (lim a ∧ a.length ≤ 60000000) ∧ 0 ≤ n ∧ n ≤ 1000000000) : awp ty G69 (code Tryz.f69) (retP ty Tryz.f69.results.toList (.many [.fresh .u64 (limbs (val a / 2 ^ n.toNat)), .v (.bool (goneS a (n.toNat / 64) (n.toNat % 64) a.length))])) (entry 0 [.sl .u64 a, .v (.int .i64 n)]) [] := by
  unfold code
  simp only [Tryz.f69, Option.getD_some]
  obtain ⟨k, rfl⟩ := Int.eq_ofNat_of_zero_le hp.2.1
  have hk : k = 64 * (k / 64) + k % 64 := by omega
  have mT : (k : Int).toNat = k := by omega
  obtain ⟨w, hw⟩ : ∃ w, k / 64 = w := ⟨_, rfl⟩
  obtain ⟨t, ht⟩ : ∃ t, k % 64 = t := ⟨_, rfl⟩
  have hd : (k : Int).tdiv 64 = (w : Int) := by rw [Int.tdiv_eq_ediv_of_nonneg (by omega)]; omega
  have hm : (k : Int).tmod 64 = (t : Int) := by rw [Int.tmod_eq_emod_of_nonneg (by omega)]; omega
  have hmm : (t : Int) % 18446744073709551616 = (t : Int) := by omega
  have m1 : min t 64 = t := by omega
  have m2 : ((64 - (t : Int)) % 18446744073709551616).toNat = 64 - t := by omega
  have m3 : min (64 - t) 64 = 64 - t := by omega
  have p1 : (2 : Int) ^ t < 2 ^ 64 := by exact_mod_cast Nat.pow_lt_pow_right (by omega) (show t < 64 by omega)
  have p2 : (1 : Int) ≤ 2 ^ t := by exact_mod_cast Nat.one_le_two_pow
  have p3 : (2 : Int) ^ 64 = 18446744073709551616 := by decide
  have mk : 1 * (2 : Int) ^ t % 18446744073709551616 = 2 ^ t := by omega
  have mk2 : ((2 : Int) ^ t - 1) % 18446744073709551616 = 2 ^ t - 1 := by omega
  clear p1 p2 p3
  rcases Nat.eq_zero_or_pos t with ht0 | ht0
  all_goals first
    | (have g5 : decide ((t : Int) > 0) = true := by simp only [decide_eq_true_eq]; omega)
    | (have g5 : decide ((t : Int) > 0) = false := by simp only [decide_eq_false_iff_not]; omega)
  all_goals repeat' (first
 | ((with_reducible first | (refine ZA ?_; intro X hX) | (show awp _ _ _ _ (Kp _ _) _) | refine ZD ?_ | refine ZE ?_ | refine ZF ?_ | ((show Bg _ _ _ _ _); simp only [hall]) | (refine ZR ?_ ?_ <;> intro hb <;> (try simp only [hb]) <;> have hq := hb <;> try simp only [HQ] at hq)) <;> try simp only [Go.AM.SS, Nat.reduceAdd, Nat.reduceMul, Nat.reduceSub, ↓reduceIte, Nat.reduceEqDiff, Nat.reduceLT, Nat.reduceLeDiff, reduceCtorEq, Int.reduceBEq, Int.reduceBNe, Nat.reduceBEq, Int.reduceEq, Int.reduceToNat, Int.reduceLE, Int.reduceLT, Nat.reduceDiv, Int.reduceAdd, Int.reduceSub, Int.reduceMul, Int.reduceNeg, Int.reduceGT, Int.reduceGE, Nat.reduceMod, k69_105, s105.eq_1, s105_eq, s105_nil1, k69_109, s109.eq_1, s109_eq, s109_nil1, ty_3, ty_22, ty_50, ty_75, aOne_append, bindP_some, spAppend, intSl, yInts, killE, namesT, names, List.map_cons, List.map_nil, toInts, hd, hm, hmm, hw, ht, mT, IntKind.bits, m1, m2, m3, mk, mk2, g5, List.length_append])
 | with_reducible first
 | (refine hX _ _ ?_; clear hX X)
 | (refine ZG ?_; try clear hall all)
 | (refine hK _ _ ?_; clear hK K)
 | refine ZL ?_
 | (refine v_0 _ _ ?_; try clear v_0 V_0)
 | (refine v_1 _ _ ?_; try clear v_1 V_1)
 | (refine v_2 _ _ ?_; try clear v_2 V_2)
 | (refine v_3 _ _ ?_; try clear v_3 V_3)
    | (with_reducible refine awp_lp (c := .seq (.region 3 _ _) _) (σ := Nat) (fun s => s ≤ a.length) (fun s => [(0, .rd .u64 a), (1, .v (.int .i64 k)), (6, .v (.bool (goneS a w t s))), (12, .v (.int .i64 a.length)), (13, .v (.int .i64 s))]) (fun s => []) (fun s => a.length - s) 0 ?_ ?_ (fun s hs => ?_))
    | (with_reducible refine awp_lp (c := .seq (.seq (.region 10 _ _) _) _) (σ := Nat × List Int) (fun z => (w ≤ z.1 ∧ (z.1 ≤ a.length ∨ z.1 = w) ∧ z.2.length = z.1 - w) ∧ lim z.2 ∧ val z.2 + 2 ^ (64 * (z.1 - w)) * (val (a.drop z.1) / 2 ^ t) = val (a.drop w) / 2 ^ t) (fun z => [(0, .rd .u64 a), (1, .v (.int .i64 k)), (6, .v (.bool (goneS a w t a.length))), (8, .ow 1280), (9, .v (.int .i64 z.1))]) (fun z => [(1280, .ints .u64 z.2, false)]) (fun z => a.length + w - z.1) (w, []) ?_ ?_ (fun z hz => ?_))
 | ((first | refine qr 16 [4,5] ?_ | refine Zh (a := .seq (.region 9 _ _) _) [6,8] ?_ | refine qr 8 [0,1,6,8] ?_ | refine Zh (a := .seq (.region 2 _ _) _) [0,1,6] ?_ | refine qr 1 [0,1,6] ?_ | refine qr 0 [0,1] ?_); intro V_0 v_0)
 | ((first | refine qb 3 [0,1,6,8,9] ?_ | refine Zh (a := .seq (.region 10 _ _) _) [0,1,6,8,9] ?_ | refine qr 9 [0,1,6,8,9] ?_ | refine qb 1 [0,1,6,12,13] ?_ | refine Zh (a := .cond (.tmp 14) _ _) [0,1,6,12,13] ?_ | refine qr 3 [0,1,6,12,13,14] ?_ | refine qr 2 [0,1,6,12,13] ?_); intro V_1 v_1)
 | ((first | refine Zh (a := .seq (.region 13 _ _) _) [0,1,6,8,9,10] ?_ | refine qr 12 [0,1,6,8,9,10] ?_ | refine qr 10 [0,1,6,8,9,52] ?_ | refine qr 5 [0,1,6,12,13,45] ?_ | refine qr 4 [0,1,6,7,12,13] ?_); intro V_2 v_2)
 | ((first | refine qr 13 [0,1,6,8,9,10,65] ?_); intro V_3 v_3)
 | (refine ZM ?_; intro K hK)
 | (refine ZN ?_; intro all hall K hK)
 | (refine ZQ ?_ ?_)
 | (refine Zg ?_; simp only [↓reduceIte, Nat.reduceEqDiff])
 | refine ZS ?_ | refine ZT ?_ | refine ZU ?_ | refine ZV ?_ | refine ZW ?_ | refine ZX ?_ | refine ZY ?_ | refine ZZ ?_ | refine Za ?_ | refine Ze ?_ | refine Zf ?_)
  all_goals try clear v_3 V_3
  all_goals try clear v_2 V_2
  all_goals try clear v_1 V_1
  all_goals try clear v_0 V_0
  all_goals clear hmm m1 m2 m3 mT g5 hm hd mk mk2
  all_goals (try simp only [inR])
  all_goals (try (rcases z with ⟨i, o⟩))
  all_goals (try dsimp only at *)
  all_goals first
    | omega
    | exact ⟨hp.1.1, by omega⟩
    | exact ⟨by omega, by omega⟩
    | (rw [goneS_zero]; (refine Eo [] rfl ?_ ?_ <;> simp only [Me, Sl, AvLe, lk, ↓reduceIte, Nat.reduceEqDiff, Option.isSome_some, and_self, and_true, true_and, reduceCtorEq, List.map_nil, List.map_cons, Option.some.injEq, AV.v.injEq, Value.int.injEq, Value.bool.injEq, AV.rd.injEq, AV.ow.injEq, AV.al.injEq, AV.ref.injEq] <;> omega); done)
    | exact ⟨s + 1, (by rw [gone_t1 (by assumption) (by assumption)]; (refine Eo [] rfl ?_ ?_ <;> simp only [Me, Sl, AvLe, lk, ↓reduceIte, Nat.reduceEqDiff, Option.isSome_some, and_self, and_true, true_and, reduceCtorEq, List.map_nil, List.map_cons, Option.some.injEq, AV.v.injEq, Value.int.injEq, Value.bool.injEq, AV.rd.injEq, AV.ow.injEq, AV.al.injEq, AV.ref.injEq] <;> omega)), by omega, by omega⟩
    | exact ⟨s + 1, (by rw [gone_t2 (by assumption) (by assumption)]; (refine Eo [] rfl ?_ ?_ <;> simp only [Me, Sl, AvLe, lk, ↓reduceIte, Nat.reduceEqDiff, Option.isSome_some, and_self, and_true, true_and, reduceCtorEq, List.map_nil, List.map_cons, Option.some.injEq, AV.v.injEq, Value.int.injEq, Value.bool.injEq, AV.rd.injEq, AV.ow.injEq, AV.al.injEq, AV.ref.injEq] <;> omega)), by omega, by omega⟩
    | exact ⟨s + 1, (by rw [gone_f (fun h => by first | assumption | omega) (fun h => by first | assumption | omega)]; (refine Eo [] rfl ?_ ?_ <;> simp only [Me, Sl, AvLe, lk, ↓reduceIte, Nat.reduceEqDiff, Option.isSome_some, and_self, and_true, true_and, reduceCtorEq, List.map_nil, List.map_cons, Option.some.injEq, AV.v.injEq, Value.int.injEq, Value.bool.injEq, AV.rd.injEq, AV.ow.injEq, AV.al.injEq, AV.ref.injEq] <;> omega)), by omega, by omega⟩
    | exact ⟨⟨Nat.le_refl _, .inr trivial, by simp⟩, fun x hx => by simp at hx, by simp [val]⟩
    | exact ⟨⟨Nat.le_refl _, .inr trivial, by simp⟩, by simp [lim], by simp [val]⟩
    | (have e : s = a.length := by omega
       rw [e]; (refine Eo [] rfl ?_ ?_ <;> simp [Me, Sl, AvLe, lk, Ct.len]); done)
    | exact ⟨hz.2.1, by omega⟩
    | (have hk2 : k = 64 * w + t := by omega
       have hi : a.length ≤ i := by omega
       rw [right_fin hp.1.1 hk2 hi hz.2.2]; done)
    | (rw [rX0 hp.1.1 ht0]
       have hl := hz.1.2.2
       exact ⟨(i + 1, o ++ [(rX a i t : Int)]), (by (refine Eo [(1280, 1280)] rfl ?_ ?_ <;> simp only [Me, Sl, AvLe, lk, ↓reduceIte, Nat.reduceEqDiff, Option.isSome_some, and_self, and_true, true_and, reduceCtorEq, List.map_nil, List.map_cons, Option.some.injEq, AV.v.injEq, Value.int.injEq, Value.bool.injEq, AV.rd.injEq, AV.ow.injEq, AV.al.injEq, AV.ref.injEq] <;> omega)), ⟨⟨by dsimp only; omega, .inl (by dsimp only; omega), by simp; omega⟩, lim_app.2 ⟨hz.2.1, lim_one (nat_lim (rX_lt hp.1.1 (by omega)))⟩, right_go hp.1.1 (by omega) hl (by omega) hz.2.2⟩, by dsimp only; omega⟩)
    | (have e : ((i : Int) + 1).toNat = i + 1 := by omega
       rw [e, rX1 hp.1.1 (by omega)]
       have hl := hz.1.2.2
       exact ⟨(i + 1, o ++ [(rX a i t : Int)]), (by (refine Eo [(1280, 1280)] rfl ?_ ?_ <;> simp only [Me, Sl, AvLe, lk, ↓reduceIte, Nat.reduceEqDiff, Option.isSome_some, and_self, and_true, true_and, reduceCtorEq, List.map_nil, List.map_cons, Option.some.injEq, AV.v.injEq, Value.int.injEq, Value.bool.injEq, AV.rd.injEq, AV.ow.injEq, AV.al.injEq, AV.ref.injEq] <;> omega)), ⟨⟨by dsimp only; omega, .inl (by dsimp only; omega), by simp; omega⟩, lim_app.2 ⟨hz.2.1, lim_one (nat_lim (rX_lt hp.1.1 (by omega)))⟩, right_go hp.1.1 (by omega) hl (by omega) hz.2.2⟩, by dsimp only; omega⟩)
    | skip
theorem sound_69 : Sound Tryz.prog 69 .body (norm s69) := by
  refine sb Tryz.func69 rfl (by kernel_rfl) G69_ok (by kernel_rfl) fun ds p r hs hp => ?_
  unfold s69 at hs
  split at hs
  · cases hs; exact ⟨Nat.le_of_ble_eq_true (by kernel_rfl), wk69 _ _ hp⟩
  · cases hs
noncomputable def s86 : Cs := fun ds => match ds with
  | [.sl .u64 a, .sl .u64 b] => some (((lim a ∧ a.length ≤ 50000000) ∧ lim b ∧ b.length ≤ 50000000) ∧ val b ≤ val a, .one (.fresh .u64 (limbs (val a - val b))))
  | _ => none
theorem s86_eq (a : List Int) (b : List Int) : norm s86 [.sl .u64 a, .sl .u64 b] = s86 [.sl .u64 a, .sl .u64 b] := rfl
theorem s86_nil1  (b : List Int) : norm s86 [.v (.slice none 0 0), .sl .u64 b] = s86 [.sl .u64 [], .sl .u64 b] := rfl
theorem s86_nil2 (a : List Int)  : norm s86 [.sl .u64 a, .v (.slice none 0 0)] = s86 [.sl .u64 a, .sl .u64 []] := rfl
theorem s86_nil3   : norm s86 [.v (.slice none 0 0), .v (.slice none 0 0)] = s86 [.sl .u64 [], .sl .u64 []] := rfl
noncomputable def G86 : Gam := [(105, .body, norm s105), (109, .body, norm s109), (153, .ext, sSub64)]
theorem G86_ok : Gk Tryz.prog G86 := Gc sound_105 (Gc sound_109 (Gc ext_153 Gn))
theorem k86_105 : lk G86 105 = some (.body, norm s105) := rfl
theorem k86_109 : lk G86 109 = some (.body, norm s109) := rfl
theorem k86_153 : lk G86 153 = some (.ext, sSub64) := rfl
theorem wk86 (a : List Int) (b : List Int) (hp : ((lim a ∧ a.length ≤ 50000000) ∧ lim b ∧ b.length ≤ 50000000) ∧ val b ≤ val a) : awp ty G86 (code Tryz.f86) (retP ty Tryz.f86.results.toList (.one (.fresh .u64 (limbs (val a - val b))))) (entry 0 [.sl .u64 a, .sl .u64 b]) [] := by
  unfold code
  simp only [Tryz.f86, Option.getD_some]
  obtain ⟨N, hN⟩ : ∃ N, max a.length b.length = N := ⟨_, rfl⟩
  have mE : max (a.length : Int) (b.length : Int) = (N : Int) := by omega
  have mT : ((N : Int)).toNat = N := Int.toNat_natCast N
  all_goals repeat' (first
 | ((with_reducible first | (refine ZA ?_; intro X hX) | (show awp _ _ _ _ (Kp _ _) _) | refine ZD ?_ | refine ZE ?_ | refine ZF ?_ | ((show Bg _ _ _ _ _); simp only [hall]) | (refine ZR ?_ ?_ <;> intro hb <;> (try simp only [hb]) <;> have hq := hb <;> try simp only [HQ] at hq)) <;> try simp only [Go.AM.SS, Nat.reduceAdd, Nat.reduceMul, Nat.reduceSub, ↓reduceIte, Nat.reduceEqDiff, Nat.reduceLT, Nat.reduceLeDiff, reduceCtorEq, Int.reduceBEq, Int.reduceBNe, Nat.reduceBEq, Int.reduceEq, Int.reduceToNat, Int.reduceLE, Int.reduceLT, Nat.reduceDiv, Int.reduceAdd, Int.reduceSub, Int.reduceMul, Int.reduceNeg, Int.reduceGT, Int.reduceGE, Nat.reduceMod, k86_105, s105.eq_1, s105_eq, s105_nil1, k86_109, s109.eq_1, s109_eq, s109_nil1, k86_153, sSub64_eq, ty_3, ty_22, ty_50, mE, mT, List.length_replicate])
 | with_reducible first
 | (refine hX _ _ ?_; clear hX X)
 | (refine ZG ?_; try clear hall all)
 | (refine hK _ _ ?_; clear hK K)
 | refine ZL ?_
 | (refine v_0 _ _ ?_; try clear v_0 V_0)
 | (refine v_1 _ _ ?_; try clear v_1 V_1)
 | (refine v_2 _ _ ?_; try clear v_2 V_2)
    | (with_reducible refine awp_lp (σ := Nat × Nat × List Int) (fun s => (s.1 ≤ N ∧ s.2.1 ≤ 1 ∧ s.2.2.length = N) ∧ lim s.2.2 ∧ val (s.2.2.take s.1) + val (b.take s.1) = val (a.take s.1) + s.2.1 * 2 ^ (64 * s.1)) (fun s => [(0, .rd .u64 a), (1, .rd .u64 b), (5, .ow 208), (6, .v (.int .u64 s.2.1)), (15, .v (.int .i64 N)), (16, .v (.int .i64 s.1))]) (fun s => [(208, .ints .u64 s.2.2, false)]) (fun s => N - s.1) (0, 0, List.replicate N 0) ?_ ?_ (fun s hs => ?_))
 | ((first | refine qr 8 [4] ?_ | refine Zh (a := .seq (.region 3 _ _) _) [5] ?_ | refine qr 2 [0,1,5,6] ?_ | refine qr 1 [0,1,5] ?_ | refine qr 0 [0,1] ?_); intro V_0 v_0)
 | ((first | refine qb 1 [0,1,5,6,15,16] ?_ | refine Zh (a := .cond (.tmp 17) _ _) [0,1,5,6,15,16] ?_ | refine qr 4 [0,1,5,6,15,16,17] ?_ | refine qr 3 [0,1,5,6,15,16] ?_); intro V_1 v_1)
 | ((first | refine qr 5 [0,1,5,6,7,15,16] ?_); intro V_2 v_2)
 | (refine ZM ?_; intro K hK)
 | (refine ZN ?_; intro all hall K hK)
 | (refine ZQ ?_ ?_)
 | (refine Zg ?_; simp only [↓reduceIte, Nat.reduceEqDiff])
 | refine ZS ?_ | refine ZT ?_ | refine ZU ?_ | refine ZV ?_ | refine ZW ?_ | refine ZX ?_ | refine ZY ?_ | refine ZZ ?_ | refine Za ?_ | refine Ze ?_ | refine Zf ?_)
  all_goals try clear v_2 V_2
  all_goals try clear v_1 V_1
  all_goals try clear v_0 V_0
  all_goals clear mE mT
  all_goals (try (rcases s with ⟨i, c, o⟩))
  all_goals (try (obtain ⟨ss, hs⟩ := hs))
  all_goals (try dsimp only at *)
  all_goals (try simp only [inR])
  all_goals (try omega)
  · exact ⟨⟨Nat.zero_le _, by omega, by simp⟩, lim_rep _, by simp [val]⟩
  · exact Ent.refl _ _
  · have h1 := Mg hp.1.1.1 (i := i)
    have h2 := Mg hp.1.2.1 (i := i)
    omega
  · obtain ⟨c', s', e1, e2, e3, e4, e5⟩ := less_step hp.1.1.1 hp.1.2.1 (show c ≤ 1 by omega) (show i < o.length by omega) hs.2
    rw [e1, e2]
    exact ⟨(i + 1, c', o.set i (s' : Int)), (by (refine Eo [(208, 208)] rfl ?_ ?_ <;> simp only [Me, Sl, AvLe, lk, ↓reduceIte, Nat.reduceEqDiff, Option.isSome_some, and_self, and_true, true_and, reduceCtorEq, List.map_nil, List.map_cons, Option.some.injEq, AV.v.injEq, Value.int.injEq, Value.bool.injEq, AV.rd.injEq, AV.ow.injEq, AV.al.injEq, AV.ref.injEq] <;> omega)), ⟨⟨by dsimp only; omega, e3, by simp; omega⟩, lim_set hs.1 (nat_lim e4) _, e5⟩, by dsimp only; omega⟩
  · exact ⟨hs.1, by omega⟩
  · have hi : i = N := by omega
    subst hi
    rw [less_fin hp.1.1.1 hp.1.2.1 hs.1 (by omega) (by omega) (by omega) hp.2 hs.2]
theorem sound_86 : Sound Tryz.prog 86 .body (norm s86) := by
  refine sb Tryz.func86 rfl (by kernel_rfl) G86_ok (by kernel_rfl) fun ds p r hs hp => ?_
  unfold s86 at hs
  split at hs
  · cases hs; exact ⟨Nat.le_of_ble_eq_true (by kernel_rfl), wk86 _ _ hp⟩
  · cases hs
end Go.Proofs.AMT
