/- Part of the proof: own text. -/
import Derived.Test.YthdbkmpkebdliaaGreatDoorKA10
set_option linter.all false
set_option maxHeartbeats 20000000
set_option maxRecDepth 20000
namespace Go.Proofs.AMT
open Go.AM Go.AM.LN
attribute [local congr] bindO_congr bindS_congr bindG_congr awpOps_congr aOne_congr awp_congr aCond_congr awpD_congr dOne_congr keysB_congr nOne_congr thenP_congr blockP_congr Chk_congr Brk_congr
noncomputable def s99 : Cs := fun ds => match ds with
  | [.v (.int .i64 n), .v (.int .i64 d), .v (.bool s), .sl .u64 a, .sl .u64 b, .v (.int .i64 e)] => some ((lim a ∧ a.length ≤ 60000000) ∧ (lim b ∧ b.length ≤ 60000000) ∧ val b ≠ 0 ∧ sz a ≤ 800 ∧ sz b ≤ 800, .many [.v (.agg #[.int .u64 (w4 (roundV n d s (val a) (val b) e) 0), .int .u64 (w4 (roundV n d s (val a) (val b) e) 1), .int .u64 (w4 (roundV n d s (val a) (val b) e) 2), .int .u64 (w4 (roundV n d s (val a) (val b) e) 3)]), .v (.int .i64 (roundF n d s (val a) (val b) e)), .v (.int .i64 (roundE n d))])
  | _ => none
theorem s99_eq (n : Int) (d : Int) (s : Bool) (a : List Int) (b : List Int) (e : Int) : norm s99 [.v (.int .i64 n), .v (.int .i64 d), .v (.bool s), .sl .u64 a, .sl .u64 b, .v (.int .i64 e)] = s99 [.v (.int .i64 n), .v (.int .i64 d), .v (.bool s), .sl .u64 a, .sl .u64 b, .v (.int .i64 e)] := rfl
theorem s99_nil1 (n : Int) (d : Int) (s : Bool)  (b : List Int) (e : Int) : norm s99 [.v (.int .i64 n), .v (.int .i64 d), .v (.bool s), .v (.slice none 0 0), .sl .u64 b, .v (.int .i64 e)] = s99 [.v (.int .i64 n), .v (.int .i64 d), .v (.bool s), .sl .u64 [], .sl .u64 b, .v (.int .i64 e)] := rfl
theorem s99_nil2 (n : Int) (d : Int) (s : Bool) (a : List Int)  (e : Int) : norm s99 [.v (.int .i64 n), .v (.int .i64 d), .v (.bool s), .sl .u64 a, .v (.slice none 0 0), .v (.int .i64 e)] = s99 [.v (.int .i64 n), .v (.int .i64 d), .v (.bool s), .sl .u64 a, .sl .u64 [], .v (.int .i64 e)] := rfl
theorem s99_nil3 (n : Int) (d : Int) (s : Bool)   (e : Int) : norm s99 [.v (.int .i64 n), .v (.int .i64 d), .v (.bool s), .v (.slice none 0 0), .v (.slice none 0 0), .v (.int .i64 e)] = s99 [.v (.int .i64 n), .v (.int .i64 d), .v (.bool s), .sl .u64 [], .sl .u64 [], .v (.int .i64 e)] := rfl
noncomputable def G99 : Gam := [(71, .body, norm s71), (91, .body, norm s91), (92, .body, norm s92), (97, .body, norm s97), (131, .body, norm s131), (133, .body, norm s133), (141, .body, norm s141), (165, .body, norm s165), (166, .body, norm s166), (167, .body, norm s167), (168, .body, norm s168), (169, .body, norm s169)]
theorem G99_ok : Gk Tryz.prog G99 := Gc sound_71 (Gc sound_91 (Gc sound_92 (Gc sound_97 (Gc sound_131 (Gc sound_133 (Gc sound_141 (Gc sound_165 (Gc sound_166 (Gc sound_167 (Gc sound_168 (Gc sound_169 Gn)))))))))))
theorem k99_71 : lk G99 71 = some (.body, norm s71) := rfl
theorem k99_91 : lk G99 91 = some (.body, norm s91) := rfl
theorem k99_92 : lk G99 92 = some (.body, norm s92) := rfl
theorem k99_97 : lk G99 97 = some (.body, norm s97) := rfl
theorem k99_131 : lk G99 131 = some (.body, norm s131) := rfl
theorem k99_133 : lk G99 133 = some (.body, norm s133) := rfl
theorem k99_141 : lk G99 141 = some (.body, norm s141) := rfl
theorem k99_165 : lk G99 165 = some (.body, norm s165) := rfl
theorem k99_166 : lk G99 166 = some (.body, norm s166) := rfl
theorem k99_167 : lk G99 167 = some (.body, norm s167) := rfl
theorem k99_168 : lk G99 168 = some (.body, norm s168) := rfl
theorem k99_169 : lk G99 169 = some (.body, norm s169) := rfl
theorem wk99 (n : Int) (d : Int) (s : Bool) (a : List Int) (b : List Int) (e : Int) (hp : (lim a ∧ a.length ≤ 60000000) ∧ (lim b ∧ b.length ≤ 60000000) ∧ val b ≠ 0 ∧ sz a ≤ 800 ∧ sz b ≤ 800) : awp ty G99 (code Tryz.f99) (retP ty Tryz.f99.results.toList (.many [.v (.agg #[.int .u64 (w4 (roundV n d s (val a) (val b) e) 0), .int .u64 (w4 (roundV n d s (val a) (val b) e) 1), .int .u64 (w4 (roundV n d s (val a) (val b) e) 2), .int .u64 (w4 (roundV n d s (val a) (val b) e) 3)]), .v (.int .i64 (roundF n d s (val a) (val b) e)), .v (.int .i64 (roundE n d))])) (entry 0 [.v (.int .i64 n), .v (.int .i64 d), .v (.bool s), .sl .u64 a, .sl .u64 b, .v (.int .i64 e)]) [] := by
  unfold code
  simp only [Tryz.f99, Option.getD_some]
  obtain ⟨la, lb, hy0, sa, sb⟩ := hp
  have za := Lz la.1
  have zb := Lz lb.1
  generalize hx : val a = x at *
  generalize hy : val b = y at *
  have hI0 : infoV n = (if 1 ≤ n ∧ n ≤ 12 then infoT n else infoZ) := rfl
  have gkE := okB0 n
  have hcase : ¬ (1 ≤ n ∧ n ≤ 6) ∨ ((1 ≤ n ∧ n ≤ 6) ∧ ¬ (0 ≤ d ∧ d ≤ 4)) ∨ ((1 ≤ n ∧ n ≤ 6) ∧ (0 ≤ d ∧ d ≤ 4)) := by omega
  rcases hcase with hn | ⟨hn, hd⟩ | ⟨hn, hd⟩
  rcases Classical.em (1 ≤ n ∧ n ≤ 12) with hr | hr
  all_goals first
    | (have hI := infoV_in hr)
    | (have hI := infoV_out hr)
    | (have hI := infoV_in (n := n) (by omega))
  all_goals first
    | (have gk := gkE.trans (decide_eq_true hn))
    | (have gk := gkE.trans (decide_eq_false hn))
  all_goals first
    | (have gr : (decide (d ≥ 0) && decide (d ≤ 4)) = true := by rw [decide_eq_true (by omega : d ≥ 0), decide_eq_true (by omega : d ≤ 4)]; rfl)
    | (have gr : (decide (d ≥ 0) && decide (d ≤ 4)) = false := by
         rw [Bool.and_eq_false_iff, decide_eq_false_iff_not, decide_eq_false_iff_not]; omega)
    | (have gr : decide ((4 : Int) ≥ 5) = false := rfl)
  all_goals clear gkE hI0
  all_goals (obtain ⟨F1, F2, F3, F4, F5, F6, F7, F8, F9, F10, F11⟩ : BF (if 1 ≤ n ∧ n ≤ 6 then n else 1) := bfmt (by split <;> omega))
  all_goals first
    | (have h0 := okR_n (d := d) hn
       obtain ⟨q1, q2, q3⟩ := round_no h0 s x y e
       rw [q1, q2, q3])
    | (have h0 := okR_d (n := n) hd
       obtain ⟨q1, q2, q3⟩ := round_no h0 s x y e
       rw [q1, q2, q3])
    | (have h0 := okR_y hn hd
       obtain ⟨q1, q2, q3⟩ := round_yes h0 s x y e
       rw [q1, q2, q3])
  case' inr.inr =>
    rw [if_pos hn] at F1 F2 F3 F4 F5 F6 F7 F8 F9 F10 F11
    rcases Nat.eq_zero_or_pos x with hx0 | hx0
  case' inr.inr.inr =>
    obtain ⟨bl1, bl2⟩ := lowS_bound hx0 (Nat.pos_of_ne_zero hy0)
    obtain ⟨E', hE'⟩ : ∃ E', min (max e (-130000)) 130000 = E' := ⟨_, rfl⟩
    have xb := blen_le_len x
    have yb := blen_le_len y
    have hcl : (-130000 ≤ E' ∧ E' ≤ 130000) ∧ (E' = e ∨ (E' = 130000 ∧ 130000 < e) ∨ (E' = -130000 ∧ e < -130000)) := by omega
    obtain ⟨L, hL⟩ : ∃ L, lowS x y = L := ⟨_, rfl⟩
    rw [hL] at bl1 bl2
    have hrl : rlow x y e = L + e := by unfold rlow; rw [hL]
    have hway : (fe n + 1 - fp n + fp n ≤ L + E') ∨ (¬ fe n + 1 - fp n + fp n ≤ L + E' ∧ L + E' < 2 - fe n - fp n - 1) ∨ (¬ fe n + 1 - fp n + fp n ≤ L + E' ∧ ¬ L + E' < 2 - fe n - fp n - 1 ∧ E' = e) := by omega
    rcases hway with hA | ⟨hA, hB⟩ | ⟨hA, hB, hEe⟩
  case' inr.inr.inr.inr.inl =>
    have hT := rdiv_tiny (n := n) (d := d) (s := s) hx0 (Nat.pos_of_ne_zero hy0) (show 1 ≤ fp n by omega) (show rlow x y e < 2 - fe n - fp n - 1 by rw [hrl]; omega)
    have hqC : max (2 - fe n - fp n) (2 - fe n - fp n - 2 - fp n + 1) = rq n x y e := by rw [hT.1]; omega
    have ekB : 2 - fe n - fp n - 2 - rq n x y e = -2 := by rw [hT.1]; omega
    obtain ⟨⟨c, ex⟩, hD⟩ : ∃ D, rdiv n d s x y e = D := ⟨_, rfl⟩
    have hdv : divS d s 1 4 = (c, ex) := by rw [← hT.2, hD]
    have hO : (rq n x y e = rlow x y e - fp n + 1 ∧ 2 ^ (fp n - 1).toNat ≤ c ∧ c ≤ 2 ^ (fp n).toNat) ∨ (rq n x y e = 2 - fe n - fp n ∧ c ≤ 2 ^ (fp n - 1).toNat) := by
      refine .inr ⟨hT.1, ?_⟩
      have h1 := (@divS_le d s 1 4).2
      rw [hdv] at h1
      exact Nat.le_trans h1 (Nat.one_le_two_pow)
    have hc1 : c ≤ 1 := by
      have := (@divS_le d s 1 4).2
      rw [hdv] at this; exact this
    have hex : ex = false := by
      have : (divS d s 1 4).2 = false := rfl
      rw [hdv] at this; exact this
    have hcl : c < 2 ^ 256 := Nat.lt_of_le_of_lt hc1 (by decide)
    have rqb := @rq_b n x y e
    clear hT
  case' inr.inr.inr.inr.inr =>
    subst hEe
    have hO := rdiv_ok (n := n) (d := d) (s := s) hn hx0 (Nat.pos_of_ne_zero hy0) (show 2 - fe n - fp n - 1 ≤ rlow x y E' by rw [hrl]; omega)
    have hqC : max (2 - fe n - fp n) (L + E' - fp n + 1) = rq n x y E' := by unfold rq; rw [hrl]
    have ekB : decide ((4 : Int) ≥ 5) = false := rfl
    obtain ⟨⟨c, ex⟩, hD⟩ : ∃ D, rdiv n d s x y E' = D := ⟨_, rfl⟩
    have hdv : divS d s (x * 2 ^ (E' - rq n x y E').toNat) (y * 2 ^ (-(E' - rq n x y E')).toNat) = (c, ex) := hD
    rw [hD] at hO
    have rqb := @rq_b n x y E'
    have hpw : 2 ^ (fp n).toNat ≤ 2 ^ 241 := Nat.pow_le_pow_right (by omega) (by omega)
    have hpw1 : 2 ^ (fp n - 1).toNat ≤ 2 ^ 241 := Nat.pow_le_pow_right (by omega) (by omega)
    have hcl : c < 2 ^ 256 := by
      have h241 : (2 : Nat) ^ 241 < 2 ^ 256 := by decide
      rcases hO with ⟨_, _, h3⟩ | ⟨_, h3⟩
      · exact Nat.lt_of_le_of_lt (Nat.le_trans h3 hpw) h241
      · exact Nat.lt_of_le_of_lt (Nat.le_trans h3 hpw1) h241
  case' inr.inr.inr.inl =>
    have hAr : fe n + 1 - fp n < rq n x y e := by
      have := @rq_b n x y e
      omega
  all_goals first
    | (have hV4 := V4_limbs hcl)
    | (have hV4 : decide ((4 : Int) ≥ 5) = false := rfl)
  all_goals first
    | (have hV5 := V4_limbs (Nat.lt_of_le_of_lt (Nat.div_le_self c 2) hcl))
    | (have hV5 : decide ((4 : Int) ≥ 5) = false := rfl)
  all_goals first
    | (have _h := hqC)
    | (have hqC : decide ((4 : Int) ≥ 5) = false := rfl
       have ekB : decide ((4 : Int) ≥ 5) = false := rfl
       have hdv : decide ((4 : Int) ≥ 5) = false := rfl)
  all_goals first
    | (have hE0 := hE')
    | (have hE0 : decide ((4 : Int) ≥ 5) = false := rfl)
  all_goals (have zx := @len_zero x)
  all_goals (have zy := @len_zero y)
  all_goals first
    | (have gx0 : (((limbs x).length : Int) == 0) = true := by simp only [beq_iff_eq]; omega)
    | (have gx0 : (((limbs x).length : Int) == 0) = false := by simp only [beq_eq_false_iff_ne, ne_eq]; omega)
    | (have gx0 : decide ((4 : Int) ≥ 5) = false := rfl)
  all_goals first
    | (have gy0 : (((limbs y).length : Int) == 0) = true := by simp only [beq_iff_eq]; omega)
    | (have gy0 : (((limbs y).length : Int) == 0) = false := by simp only [beq_eq_false_iff_ne, ne_eq]; omega)
    | (have gy0 : decide ((4 : Int) ≥ 5) = false := rfl)
  all_goals first
    | (have gx8 : decide (((limbs x).length : Int) > 800) = true := by simp only [decide_eq_true_eq]; omega)
    | (have gx8 : decide (((limbs x).length : Int) > 800) = false := by simp only [decide_eq_false_iff_not]; omega)
    | (have gx8 : decide ((4 : Int) ≥ 5) = false := rfl)
  all_goals first
    | (have gy8 : decide (((limbs y).length : Int) > 800) = true := by simp only [decide_eq_true_eq]; omega)
    | (have gy8 : decide (((limbs y).length : Int) > 800) = false := by simp only [decide_eq_false_iff_not]; omega)
    | (have gy8 : decide ((4 : Int) ≥ 5) = false := rfl)
  all_goals first
    | (have gA : decide (L + E' ≥ fe n + 1 - fp n + fp n) = true := by simp only [decide_eq_true_eq]; omega)
    | (have gA : decide (L + E' ≥ fe n + 1 - fp n + fp n) = false := by simp only [decide_eq_false_iff_not]; omega)
    | (have gA : decide ((4 : Int) ≥ 5) = false := rfl)
  all_goals first
    | (have gB : decide (L + E' < 2 - fe n - fp n - 1) = true := by simp only [decide_eq_true_eq]; omega)
    | (have gB : decide (L + E' < 2 - fe n - fp n - 1) = false := by simp only [decide_eq_false_iff_not]; omega)
    | (have gB : decide ((4 : Int) ≥ 5) = false := rfl)
  all_goals repeat' (first
 | ((with_reducible first | (refine ZA ?_; intro X hX) | (refine ZB ?_; intro X hX) | (show awp _ _ _ _ (Kp _ _) _) | refine ZD ?_ | refine ZE ?_ | refine ZF ?_ | ((show Bg _ _ _ _ _); simp only [hall]) | (refine ZR ?_ ?_ <;> intro hb <;> (try simp only [hb]) <;> have hq := hb <;> try simp only [HQ] at hq)) <;> try simp only [Go.AM.SS, Nat.reduceAdd, Nat.reduceMul, Nat.reduceSub, ↓reduceIte, Nat.reduceEqDiff, Nat.reduceLT, Nat.reduceLeDiff, reduceCtorEq, Int.reduceBEq, Int.reduceBNe, Nat.reduceBEq, Int.reduceEq, Int.reduceToNat, Int.reduceLE, Int.reduceLT, Nat.reduceDiv, Int.reduceAdd, Int.reduceSub, Int.reduceMul, Int.reduceNeg, Int.reduceGT, Int.reduceGE, Nat.reduceMod, k99_71, s71.eq_1, s71_eq, k99_91, s91.eq_1, s91_eq, k99_92, s92.eq_1, s92_eq, k99_97, s97.eq_1, s97_eq, k99_131, s131.eq_1, s131_eq, s131_nil1, k99_133, s133.eq_1, s133_eq, s133_nil1, k99_141, s141.eq_1, s141_eq, s141_nil1, s141_nil2, s141_nil3, k99_165, s165.eq_1, s165_eq, s165_nil1, s165_nil2, s165_nil3, k99_166, s166.eq_1, s166_eq, k99_167, s167.eq_1, s167_eq, s167_nil1, s167_nil2, s167_nil3, k99_168, s168.eq_1, s168_eq, s168_nil1, k99_169, s169.eq_1, s169_eq, s169_nil1, ty_3, ty_4, ty_9, ty_22, ty_24, ty_33, ty_50, ty_95, hx, hy, hI, infoT, infoZ, gk, gr, Vl, V4_x, gx0, gx8, gy0, gy8, Int.zero_sub, hE0, gA, gB, hqC, ekB, hdv, or84, hV4, hV5, Nat.reducePow, Nat.pow_zero, Nat.mul_one, Nat.one_mul, Int.toNat_one, Nat.pow_one, Int.neg_neg])
 | with_reducible first
 | (refine hX _ _ ?_; clear hX X)
 | (refine ZG ?_; try clear hall all)
 | (refine ZH ?_; try clear hall all)
 | (refine hK _ _ ?_; clear hK K)
 | refine ZL ?_
 | (refine v_0 _ _ ?_; try clear v_0 V_0)
 | (refine v_1 _ _ ?_; try clear v_1 V_1)
    | with_reducible refine hJ12 _ _ ?_
    | (with_reducible refine awp_seq_e (a := .seq (.region 12 _ _) _) [(0, .v (.int .i64 n)), (1, .v (.int .i64 d)), (2, .v (.bool s)), (3, .ow 592), (4, .ow 624), (5, .v (.int .i64 E')), (12, .ref 192 0), (15, .ref 240 0), (19, .v (.int .i64 L))] [(592, .ints .u64 (limbs x), true), (624, .ints .u64 (limbs y), true), (192, .vals [.int .u64 0, .int .u64 0, .int .u64 0, .int .u64 0], false), (240, .vals [.int .i64 n, .string (fnm n), .int .i64 (fb n), .int .i64 (fw n), .int .i64 (fp n), .int .i64 (fx n), .int .i64 (2 - fe n - fp n), .int .i64 (fe n + 1 - fp n), .int .i64 (fl n), .bool (fd n)], false)] ?_ ?_; rotate_left; intro KJ hJ12)
 | ((first | refine qr 34 [12,13,14] ?_ | refine qr 33 [12,27,28,29] ?_ | refine Zh (a := .seq (.region 29 _ _) _) [0,2,12,22,25,27] ?_ | refine qr 28 [0,2,12,15,19,22,25,26,27] ?_ | refine Zh (a := .seq (.region 26 _ _) _) [0,2,12,15,19,22,25,26] ?_ | refine Zh (a := .seq (.region 23 _ _) _) [0,1,2,12,15,19,22,25,26] ?_ | refine qr 22 [0,1,2,12,15,19,22,25,26] ?_ | refine qr 21 [0,1,2,12,15,19,22,23,24] ?_ | refine qr 20 [0,1,2,3,4,5,12,15,19,22] ?_ | refine qb 1 [0,1,2,3,4,5,12,15,19] ?_ | refine qr 15 [0,1,2,3,4,5,12,15,19] ?_ | refine Zh (a := .seq (.region 12 _ _) _) [0,1,2,3,4,5,12,15,19] ?_ | refine qr 11 [0,1,2,3,4,5,12,15,19] ?_ | refine qr 10 [0,1,2,3,4,5,12,15] ?_ | refine qb 0 [0,1,2,3,4,5,12,15] ?_ | refine qr 2 [0,1,2,3,4,5,12,15,16] ?_ | refine qr 1 [0,1,2,3,4,5,12,15,16] ?_ | refine qr 0 [0,1,2,3,4,5,12] ?_); intro V_0 v_0)
 | ((first | refine qr 31 [0,2,12,22,25,27,190] ?_ | refine qr 30 [0,2,12,15,19,22,25,27] ?_ | refine qr 29 [0,2,12,15,19,22,25,27,182] ?_ | refine qr 27 [12,13,14] ?_ | refine qr 26 [0,1,2,12,15,19,22,25,26,173] ?_ | refine qr 24 [0,1,2,12,15,19,22,25,26] ?_ | refine qr 23 [0,1,2,12,15,19,22,25,26,162] ?_ | refine qr 17 [12,13,14] ?_ | refine qr 18 [0,1,2,3,4,5,12,15,19,119] ?_ | refine qr 16 [0,1,2,3,4,5,12,15,19,104] ?_ | refine qr 13 [0,1,2,3,4,5,12,15,19,98] ?_ | refine qr 12 [0,1,2,3,4,5,12,15,19,20,21] ?_ | refine qr 4 [12,13,14] ?_ | refine qr 6 [12,13,14] ?_ | refine qr 9 [12,13,14] ?_ | refine qr 8 [12,17,18] ?_ | refine qr 7 [0,1,2,3,4,5,12,15,64] ?_ | refine qr 5 [0,1,2,3,4,5,12,15,54] ?_ | refine qr 3 [0,1,2,3,4,5,12,15,40] ?_); intro V_1 v_1)
 | (refine ZM ?_; intro K hK)
 | (refine ZN ?_; intro all hall K hK)
 | (refine ZO ?_ ?_; kernel_rfl; intro all hall K hK)
 | (refine ZQ ?_ ?_)
 | (refine ZK ?_; kernel_rfl)
 | (refine Zg ?_; simp only [↓reduceIte, Nat.reduceEqDiff])
 | refine ZS ?_ | refine ZT ?_ | refine ZU ?_ | refine ZV ?_ | refine ZW ?_ | refine ZX ?_ | refine Ze ?_ | refine Zf ?_)
  all_goals try clear v_1 V_1
  all_goals try clear v_0 V_0
  all_goals clear hV4 hV5 hqC ekB hdv gx0 gy0 gx8 gy8 gA gB gk gr hI
  all_goals (try simp only [inR])
  all_goals (have sx := sz_limbs x)
  all_goals (have sy := sz_limbs y)
  all_goals (have lx := len_limbs x)
  all_goals (have ly := len_limbs y)
  all_goals first
    | omega
    | exact ⟨la.1, by omega⟩
    | exact ⟨lb.1, by omega⟩
    | exact ⟨Ml _, by omega⟩
    | exact ⟨Ml _, Ml _, ⟨by omega, by omega⟩, fun _ => by omega, fun _ => by omega, by omega, by omega⟩
    | exact ⟨Ml _, Ml _, Nat.le_of_ble_eq_true rfl, fun _ => by decide⟩
    | exact ⟨⟨Ml _, Nat.le_of_ble_eq_true rfl⟩, ⟨Ml _, Nat.le_of_ble_eq_true rfl⟩, Nat.le_of_ble_eq_true rfl, Nat.le_of_ble_eq_true rfl⟩
    | exact ⟨⟨Ml _, by rw [len_pow (by omega)]; omega⟩, Ml _, by rw [len_pow (by omega)]; omega⟩
    | exact ⟨⟨Ml _, by rw [len_pow (by omega)]; omega⟩, ⟨Ml _, by rw [len_pow (by omega)]; omega⟩, Nat.mul_ne_zero (by omega) (Nat.pos_iff_ne_zero.1 (Nat.two_pow_pos _)), by rw [sz_limbs, len_pow (by omega)]; omega, by rw [sz_limbs, len_pow (by omega)]; omega⟩
    | exact ⟨Ml _, len4 hcl⟩
    | exact ⟨Ml _, Nat.le_trans (len4 hcl) (by omega)⟩
    | exact ⟨Ml _, len4 (Nat.lt_of_le_of_lt (Nat.div_le_self c 2) hcl)⟩
    | exact ⟨hn, ⟨Mg (Ml _), Mg (Ml _), Mg (Ml _), Mg (Ml _)⟩, rnd_isD1 F1 hO rqb.1 (by omega) (by omega)⟩
    | exact ⟨hn, ⟨Mg (Ml _), Mg (Ml _), Mg (Ml _), Mg (Ml _)⟩, rnd_isD0 F1 hO rqb.1 (by omega) (by omega)⟩
    | exact ⟨hn, .inl ⟨rfl, rfl, by omega, by omega, .inr ⟨by show ((0 : Nat) : Int) < _; omega, rfl⟩⟩⟩
    | (rw [(rnd_ovA (n := n) (d := d) (s := s) (by omega) hAr).1, (rnd_ovA (n := n) (d := d) (s := s) (by omega) hAr).2]; done)
    | (rw [(rnd_ovA (n := n) (d := d) (s := s) (by omega) hAr).1, (rnd_ovA (n := n) (d := d) (s := s) (by omega) hAr).2]; exact ⟨rfl, rfl⟩)
    | (obtain ⟨v1, v2⟩ := rnd_ov1 (by omega) hD (by omega) (by omega)
       rw [v1, v2]
       exact ⟨rfl, rfl⟩)
    | (obtain ⟨v1, v2⟩ := rnd_ov0 (by omega) hD (by omega) (by omega)
       rw [v1, v2]
       exact ⟨rfl, rfl⟩)
    | (have v1 := rnd_num1 (by omega) hD (by omega) (by omega)
       obtain ⟨f1, f2, f3⟩ := rnd_f (by omega) hD (.inl ⟨by omega, by omega⟩)
       rw [v1]
       first
         | (rw [f1 (by simp_all)]; exact ⟨rfl, rfl⟩)
         | (rw [f2 (by simp_all) (by omega)]; exact ⟨rfl, rfl⟩)
         | (rw [f3 (by simp_all) (by omega)]; exact ⟨rfl, rfl⟩))
    | (have v1 := rnd_num0 (by omega) hD (by omega) (by omega)
       obtain ⟨f1, f2, f3⟩ := rnd_f (by omega) hD (.inr ⟨by omega, by omega⟩)
       rw [v1]
       first
         | (rw [f1 (by simp_all)]; exact ⟨rfl, rfl⟩)
         | (rw [f2 (by simp_all) (by omega)]; exact ⟨rfl, rfl⟩)
         | (rw [f3 (by simp_all) (by omega)]; exact ⟨rfl, rfl⟩))
    | (rw [low_lt hL hq]; (refine Eo [(592, 592), (624, 624), (192, 192), (240, 240)] rfl ?_ ?_ <;> simp only [Me, Sl, AvLe, lk, ↓reduceIte, Nat.reduceEqDiff, Option.isSome_some, and_self, and_true, true_and, reduceCtorEq, List.map_nil, List.map_cons, Option.some.injEq, AV.v.injEq, Value.int.injEq, Value.bool.injEq, AV.rd.injEq, AV.ow.injEq, AV.al.injEq, AV.ref.injEq] <;> omega); done)
    | (rw [low_ge hL hq]; (refine Eo [(592, 592), (624, 624), (192, 192), (240, 240)] rfl ?_ ?_ <;> simp only [Me, Sl, AvLe, lk, ↓reduceIte, Nat.reduceEqDiff, Option.isSome_some, and_self, and_true, true_and, reduceCtorEq, List.map_nil, List.map_cons, Option.some.injEq, AV.v.injEq, Value.int.injEq, Value.bool.injEq, AV.rd.injEq, AV.ow.injEq, AV.al.injEq, AV.ref.injEq] <;> omega); done)
    | (rw [(rnd_zero (n := n) (d := d) (s := s) (e := e) (y := y) hx0).1, (rnd_zero (n := n) (d := d) (s := s) (e := e) (y := y) hx0).2]; exact ⟨rfl, rfl⟩)
    | rfl
    | (simp [w4]; done)
    | (simp only [wk40]; done)
    | (rw [wk40, wk40, wk40, wk40]; done)
    | ((refine Eo [(592, 592), (624, 624), (192, 192), (240, 240)] rfl ?_ ?_ <;> simp only [Me, Sl, AvLe, lk, ↓reduceIte, Nat.reduceEqDiff, Option.isSome_some, and_self, and_true, true_and, reduceCtorEq, List.map_nil, List.map_cons, Option.some.injEq, AV.v.injEq, Value.int.injEq, Value.bool.injEq, AV.rd.injEq, AV.ow.injEq, AV.al.injEq, AV.ref.injEq] <;> omega); done)
    | skip
theorem sound_99 : Sound Tryz.prog 99 .body (norm s99) := by
  refine sb Tryz.func99 rfl (by kernel_rfl) G99_ok (by kernel_rfl) fun ds p r hs hp => ?_
  unfold s99 at hs
  split at hs
  · cases hs; exact ⟨Nat.le_of_ble_eq_true (by kernel_rfl), wk99 _ _ _ _ _ _ hp⟩
  · cases hs
end Go.Proofs.AMT
