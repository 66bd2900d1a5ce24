/- Part 5 of the proof: own text. -/
import Derived.Lib.ItoaNum
import Derived.Lib.TrimByte
import Derived.Lib.SlTrimSet
import Derived.Lib.MapLaws
import Derived.Lib.Strings
import Derived.Lib.ParseIntB
import Derived.Lib.ItoaLen
import Derived.Laws.StructEq
import Derived.Test.YthdbkmpkebdliaaGreatDoorK4
set_option linter.all false
set_option maxHeartbeats 20000000
set_option maxRecDepth 20000
namespace Go.Proofs.AMT
open Go.AM Go.AM.LN
attribute [local congr] bindO_congr bindS_congr bindG_congr awpOps_congr aOne_congr awp_congr aCond_congr awpD_congr dOne_congr keysB_congr nOne_congr thenP_congr blockP_congr Chk_congr Brk_congr
noncomputable def s71 : Cs := fun ds => match ds with
  | [.v (.int .i64 n), .v (.agg ⟨[.int .i64 cl, .bool sg, .bool si, .int .i64 ex, .int .u64 c0, .int .u64 c1, .int .u64 c2, .int .u64 c3]⟩)] => some ((1 ≤ n ∧ n ≤ 6) ∧ ((0 ≤ c0 ∧ c0 < 18446744073709551616) ∧ (0 ≤ c1 ∧ c1 < 18446744073709551616) ∧ (0 ≤ c2 ∧ c2 < 18446744073709551616) ∧ (0 ≤ c3 ∧ c3 < 18446744073709551616)) ∧ isD n cl si (V4 c0 c1 c2 c3) ex, .many [.v (.agg #[.int .u64 (w4 (packS n cl sg si (V4 c0 c1 c2 c3) ex) 0), .int .u64 (w4 (packS n cl sg si (V4 c0 c1 c2 c3) ex) 1), .int .u64 (w4 (packS n cl sg si (V4 c0 c1 c2 c3) ex) 2), .int .u64 (w4 (packS n cl sg si (V4 c0 c1 c2 c3) ex) 3)]), .v (.int .i64 0)])
  | _ => none
theorem s71_eq (n : Int) (cl : Int) (sg : Bool) (si : Bool) (ex : Int) (c0 : Int) (c1 : Int) (c2 : Int) (c3 : Int) : norm s71 [.v (.int .i64 n), .v (.agg #[.int .i64 cl, .bool sg, .bool si, .int .i64 ex, .int .u64 c0, .int .u64 c1, .int .u64 c2, .int .u64 c3])] = s71 [.v (.int .i64 n), .v (.agg #[.int .i64 cl, .bool sg, .bool si, .int .i64 ex, .int .u64 c0, .int .u64 c1, .int .u64 c2, .int .u64 c3])] := rfl
noncomputable def G71 : Gam := [(64, .body, norm s64), (91, .body, norm s91), (124, .body, norm s124), (126, .body, norm s126), (127, .body, norm s127), (130, .body, norm s130)]
theorem G71_ok : Gk Tryz.prog G71 := Gc sound_64 (Gc sound_91 (Gc sound_124 (Gc sound_126 (Gc sound_127 (Gc sound_130 Gn)))))
theorem k71_64 : lk G71 64 = some (.body, norm s64) := rfl
theorem k71_91 : lk G71 91 = some (.body, norm s91) := rfl
theorem k71_124 : lk G71 124 = some (.body, norm s124) := rfl
theorem k71_126 : lk G71 126 = some (.body, norm s126) := rfl
theorem k71_127 : lk G71 127 = some (.body, norm s127) := rfl
theorem k71_130 : lk G71 130 = some (.body, norm s130) := rfl
theorem wk71 (n : Int) (cl : Int) (sg : Bool) (si : Bool) (ex : Int) (c0 : Int) (c1 : Int) (c2 : Int) (c3 : Int) (hp : (1 ≤ n ∧ n ≤ 6) ∧ ((0 ≤ c0 ∧ c0 < 18446744073709551616) ∧ (0 ≤ c1 ∧ c1 < 18446744073709551616) ∧ (0 ≤ c2 ∧ c2 < 18446744073709551616) ∧ (0 ≤ c3 ∧ c3 < 18446744073709551616)) ∧ isD n cl si (V4 c0 c1 c2 c3) ex) : awp ty G71 (code Tryz.f71) (retP ty Tryz.f71.results.toList (.many [.v (.agg #[.int .u64 (w4 (packS n cl sg si (V4 c0 c1 c2 c3) ex) 0), .int .u64 (w4 (packS n cl sg si (V4 c0 c1 c2 c3) ex) 1), .int .u64 (w4 (packS n cl sg si (V4 c0 c1 c2 c3) ex) 2), .int .u64 (w4 (packS n cl sg si (V4 c0 c1 c2 c3) ex) 3)]), .v (.int .i64 0)])) (entry 0 [.v (.int .i64 n), .v (.agg #[.int .i64 cl, .bool sg, .bool si, .int .i64 ex, .int .u64 c0, .int .u64 c1, .int .u64 c2, .int .u64 c3])]) [] := by
  unfold code
  simp only [Tryz.f71, Option.getD_some]
  obtain ⟨hn, hc, hd⟩ := hp
  have F := bfmt hn
  obtain ⟨F1, F2, F3, F4, F5, F6, F7, F8, F9, F10, F11⟩ := F
  have hI := infoV_in (n := n) (by omega)
  have hB2 := F7
  have hW := F9
  have eP : fp n - 1 - 1 = fp n - 2 := by omega
  have hO : okB n 0 = true := by
    unfold okB
    have : blen 0 = 0 := rfl
    rw [decide_eq_true hn, Bool.true_and, this, decide_eq_true_eq]; omega
  have hmin : min (fx n).toNat 64 = (fx n).toNat := by omega
  obtain ⟨X, hX⟩ : ∃ X, (V4 c0 c1 c2 c3) % 2 ^ (fp n - 1).toNat = X := ⟨_, rfl⟩
  have hXl : X < 2 ^ 256 := by rw [← hX]; exact Nat.lt_of_lt_of_le (Nat.mod_lt _ (Nat.two_pow_pos _)) (Nat.pow_le_pow_right (by omega) (by omega))
  have hF := V4_w4 hXl
  have hF1 := V4_w4 (or_lt hXl (mod_lt256 (1 * 2 ^ (fp n - 2).toNat)))
  have hB0 : ∀ e : Nat, V4 (w4 (X ||| e * 2 ^ (fp n - 1).toNat % 2 ^ 256) 0) (w4 (X ||| e * 2 ^ (fp n - 1).toNat % 2 ^ 256) 1) (w4 (X ||| e * 2 ^ (fp n - 1).toNat % 2 ^ 256) 2) (w4 (X ||| e * 2 ^ (fp n - 1).toNat % 2 ^ 256) 3) = X ||| e * 2 ^ (fp n - 1).toNat % 2 ^ 256 := fun e => V4_w4 (or_lt hXl (mod_lt256 _))
  have hB1 : ∀ e : Nat, V4 (w4 ((X ||| 1 * 2 ^ (fp n - 2).toNat % 2 ^ 256) ||| e * 2 ^ (fp n - 1).toNat % 2 ^ 256) 0) (w4 ((X ||| 1 * 2 ^ (fp n - 2).toNat % 2 ^ 256) ||| e * 2 ^ (fp n - 1).toNat % 2 ^ 256) 1) (w4 ((X ||| 1 * 2 ^ (fp n - 2).toNat % 2 ^ 256) ||| e * 2 ^ (fp n - 1).toNat % 2 ^ 256) 2) (w4 ((X ||| 1 * 2 ^ (fp n - 2).toNat % 2 ^ 256) ||| e * 2 ^ (fp n - 1).toNat % 2 ^ 256) 3) = (X ||| 1 * 2 ^ (fp n - 2).toNat % 2 ^ 256) ||| e * 2 ^ (fp n - 1).toNat % 2 ^ 256 := fun e => V4_w4 (or_lt (or_lt hXl (mod_lt256 _)) (mod_lt256 _))
  have hB00 := V4_w4 (or_lt hXl (mod_lt256 0))
  have hpS : packS n cl sg si (V4 c0 c1 c2 c3) ex = packX n cl sg si (V4 c0 c1 c2 c3) X ex := by unfold packS packX packB packF; rw [hX]
  rw [hpS]
  rcases hd with ⟨rfl, rfl, h1, h2, h3 | ⟨h3, h4⟩⟩ | ⟨rfl, rfl, h1, rfl⟩ | ⟨rfl, rfl, h1, h2⟩
  rotate_left 3
  cases si
  rotate_left 2
  all_goals first
    | (have g3 : ((blen (V4 c0 c1 c2 c3) : Int) == fp n) = true := by simp only [beq_iff_eq]; omega)
    | (have g3 : ((blen (V4 c0 c1 c2 c3) : Int) == fp n) = false := by simp only [beq_eq_false_iff_ne, ne_eq]; omega)
    | (have g3 : decide ((4 : Int) ≥ 5) = false := rfl)
  all_goals rcases Bool.eq_false_or_eq_true sg with gs | gs
  all_goals repeat' (first
 | ((with_reducible first | (refine ZA ?_; intro X hX) | (refine ZB ?_; intro X hX) | (show awp _ _ _ _ (Kp _ _) _) | (refine hX _ _ _ _ ?_; clear hX X) | (refine ZC ?_; intro X hX) | refine ZD ?_ | refine ZE ?_ | refine ZF ?_ | ((show Bg _ _ _ _ _); simp only [hall]) | (refine ZR ?_ ?_ <;> intro hb <;> (try simp only [hb]) <;> have hq := hb <;> try simp only [HQ] at hq)) <;> try simp only [Go.AM.SS, Nat.reduceAdd, Nat.reduceMul, Nat.reduceSub, ↓reduceIte, Nat.reduceEqDiff, Nat.reduceLT, Nat.reduceLeDiff, reduceCtorEq, Int.reduceBEq, Int.reduceBNe, Nat.reduceBEq, Int.reduceEq, Int.reduceToNat, Int.reduceLE, Int.reduceLT, Nat.reduceDiv, Int.reduceAdd, Int.reduceSub, Int.reduceMul, Int.reduceNeg, Int.reduceGT, Int.reduceGE, Nat.reduceMod, k71_64, s64.eq_1, s64_eq, k71_91, s91.eq_1, s91_eq, k71_124, s124.eq_1, s124_eq, k71_126, s126.eq_1, s126_eq, k71_127, s127.eq_1, s127_eq, k71_130, s130.eq_1, s130_eq, ty_3, ty_4, ty_9, ty_22, ty_23, ty_24, ty_33, ty_95, hI, hO, infoT, hB2, hX, g3, hmin, IntKind.bits, Nat.pow_zero, Nat.div_one, hF, hF1, hB0, hB00, hB1, V4_x, Int.toNat_one, Int.one_mul, eP, hW, gs])
 | with_reducible first
 | (refine hX _ _ ?_; clear hX X)
 | (refine ZI ?_; try clear hall all)
 | (refine ZJ ?_; kernel_rfl)
 | ((show clashK _ _ _ = true); kernel_rfl)
 | (refine ZG ?_; try clear hall all)
 | (refine ZH ?_; try clear hall all)
 | (refine hK _ _ ?_; clear hK K)
 | refine ZL ?_
 | (refine v_0 _ _ ?_; try clear v_0 V_0)
 | (refine v_1 _ _ ?_; try clear v_1 V_1)
 | ((first | refine qr 18 [4,5] ?_ | refine Zh (a := .seq (.region 16 _ _) _) [4,10] ?_ | refine qr 15 [3,4,6,10] ?_ | refine qb 0 [3,4,6,8,9,10] ?_ | refine qr 8 [3,4,6,8,9,10] ?_ | refine qr 7 [3,4,6,8,9] ?_ | refine qr 6 [3,4,6,8] ?_ | refine Zh (a := .seq (.region 4 _ _) _) [3,4,6] ?_ | refine Zh (a := .seq (.region 2 _ _) _) [3,4,6] ?_ | refine qr 1 [3,4,6,7] ?_ | refine qr 0 [0,3,4] ?_); intro V_0 v_0)
 | ((first | refine qr 16 [4,6,10,72] ?_ | refine qr 11 [3,4,6,8,9,10,45] ?_ | refine qr 10 [3,4,6,8,9,10] ?_ | refine qr 13 [3,4,6,8,9,10,52] ?_ | refine qr 9 [3,4,6,8,9,10,36] ?_ | refine qr 5 [4,5] ?_ | refine qr 4 [3,4,6,23] ?_ | refine qr 3 [4,5] ?_ | refine qr 2 [3,4,6,18] ?_); intro V_1 v_1)
 | (refine ZM ?_; intro K hK)
 | (refine ZN ?_; intro all hall K hK)
 | (refine Da (id := 14) ?_ ?_; kernel_rfl; intro all hall K hK)
 | (refine Da (id := 15) ?_ ?_; kernel_rfl; intro all hall K hK)
 | (refine Da (id := 17) ?_ ?_; kernel_rfl; intro all hall K hK)
 | (refine ZO ?_ ?_; kernel_rfl; intro all hall K hK)
 | (refine ZQ ?_ ?_)
 | (refine ZK ?_; kernel_rfl)
 | (refine Zg ?_; simp only [↓reduceIte, Nat.reduceEqDiff])
 | refine ZS ?_ | refine ZT ?_ | refine ZU ?_ | refine ZV ?_ | refine ZW ?_ | refine ZX ?_ | refine Ze ?_ | refine Zf ?_)
  all_goals try clear v_1 V_1
  all_goals try clear v_0 V_0
  all_goals clear hF hF1 hB0 hB00 hB1 hpS hI hB2 hW eP
  all_goals (try simp only [inR])
  all_goals first
    | omega
    | exact hc
    | exact ⟨hc, .inl ⟨rfl, rfl, h1, h2, .inl h3⟩⟩
    | exact ⟨hc, .inl ⟨rfl, rfl, h1, h2, .inr ⟨h3, h4⟩⟩⟩
    | exact ⟨hc, .inr (.inl ⟨rfl, rfl, h1, rfl⟩)⟩
    | exact ⟨hc, .inr (.inr ⟨rfl, rfl, h1, h2⟩)⟩
    | exact ⟨hc, .inr (.inr ⟨by omega, h2.resolve_right (by simp)⟩)⟩
    | exact ⟨hc, by omega, by omega⟩
    | exact ⟨⟨Wl _ _, Wl _ _, Wl _ _, Wl _ _⟩, ⟨by omega, by omega⟩, by omega, by omega⟩
    | exact ⟨⟨Wl _ _, Wl _ _, Wl _ _, Wl _ _⟩, by omega, by omega⟩
    | (subst gs
       simp [packX, eS, h3]
       done)
    | (subst gs
       simp [packX, eS, (show ¬ ((blen (V4 c0 c1 c2 c3) : Int) = fp n) by omega)]
       done)
    | (subst gs
       simp [packX, eS]
       done)
    | skip
theorem sound_71 : Sound Tryz.prog 71 .body (norm s71) := by
  refine sb Tryz.func71 rfl (by kernel_rfl) G71_ok (by kernel_rfl) fun ds p r hs hp => ?_
  unfold s71 at hs
  split at hs
  · cases hs; exact ⟨Nat.le_of_ble_eq_true (by kernel_rfl), wk71 _ _ _ _ _ _ _ _ _ hp⟩
  · cases hs
noncomputable def s92 : Cs := fun ds => match ds with
  | [.v (.int .i64 d)] => some (True, .one (.v (.bool (decide (d ≥ 0) && decide (d ≤ 4)))))
  | _ => none
theorem s92_eq (d : Int) : norm s92 [.v (.int .i64 d)] = s92 [.v (.int .i64 d)] := rfl
noncomputable def G92 : Gam := []
theorem G92_ok : Gk Tryz.prog G92 := Gn
theorem wk92 (d : Int) (hp : True) : awp ty G92 (code Tryz.f92) (retP ty Tryz.f92.results.toList (.one (.v (.bool (decide (d ≥ 0) && decide (d ≤ 4)))))) (entry 0 [.v (.int .i64 d)]) [] := by
  unfold code
  simp only [Tryz.f92, Option.getD_some]
  all_goals repeat' (first
 | ((with_reducible first | (refine ZA ?_; intro X hX) | (show awp _ _ _ _ (Kp _ _) _) | refine ZD ?_ | refine ZE ?_ | refine ZF ?_ | ((show Bg _ _ _ _ _); simp only [hall]) | (refine ZR ?_ ?_ <;> intro hb <;> (try simp only [hb]) <;> have hq := hb <;> try simp only [HQ] at hq)) <;> try simp only [Go.AM.SS, Nat.reduceAdd, Nat.reduceMul, Nat.reduceSub, ↓reduceIte, Nat.reduceEqDiff, Nat.reduceLT, Nat.reduceLeDiff, reduceCtorEq, Int.reduceBEq, Int.reduceBNe, Nat.reduceBEq, Int.reduceEq, Int.reduceToNat, Int.reduceLE, Int.reduceLT, Nat.reduceDiv, Int.reduceAdd, Int.reduceSub, Int.reduceMul, Int.reduceNeg, Int.reduceGT, Int.reduceGE, Nat.reduceMod, ty_3])
 | with_reducible first
 | (refine hX _ _ ?_; clear hX X)
 | (refine ZG ?_; try clear hall all)
 | (refine hK _ _ ?_; clear hK K)
 | refine ZL ?_
 | (refine v_0 _ _ ?_; try clear v_0 V_0)
 | ((first | refine qr 1 [2] ?_ | refine qr 0 [0] ?_); intro V_0 v_0)
 | (refine ZM ?_; intro K hK)
 | (refine ZN ?_; intro all hall K hK)
 | (refine ZQ ?_ ?_)
 | refine ZT ?_ | refine ZU ?_ | refine ZW ?_)
  all_goals try clear v_0 V_0
  all_goals (first | rfl | (simp [hb]; done) | skip)
theorem sound_92 : Sound Tryz.prog 92 .body (norm s92) := by
  refine sb Tryz.func92 rfl (by kernel_rfl) G92_ok (by kernel_rfl) fun ds p r hs hp => ?_
  unfold s92 at hs
  split at hs
  · cases hs; exact ⟨Nat.le_of_ble_eq_true (by kernel_rfl), wk92 _ hp⟩
  · cases hs
end Go.Proofs.AMT
set_option maxRecDepth 20000
namespace Go.AM.LN
theorem val_td {a : List Int} (la : lim a) (i : Nat) : val a = val (a.take i) + 2 ^ (64 * i) * val (a.drop i) ∧ val (a.take i) < 2 ^ (64 * i) := by
  refine ⟨?_, val_take_lt la i⟩
  rw [val_take _ _ la, val_drop _ _ la, Nat.mod_add_div]
theorem drop_lt {a b : List Int} {i : Nat} (la : lim a) (lb : lim b) (h : val (a.drop i) < val (b.drop i)) : val a < val b := by
  obtain ⟨e1, l1⟩ := val_td la i
  obtain ⟨e2, l2⟩ := val_td lb i
  have h1 : 2 ^ (64 * i) * (val (a.drop i) + 1) ≤ 2 ^ (64 * i) * val (b.drop i) := Nat.mul_le_mul_left _ h
  rw [Nat.mul_add, Nat.mul_one] at h1
  omega
theorem drop_step_lt {a b : List Int} {i : Nat} (la : lim a) (lb : lim b) (he : val (a.drop (i + 1)) = val (b.drop (i + 1))) (h : a.getD i 0 < b.getD i 0) : val a < val b := by
  refine drop_lt (i := i) la lb ?_
  rw [Vd a, Vd b, he]
  have h1 := Mg la (i := i)
  have h2 := Mg lb (i := i)
  omega
theorem drop_step_eq {a b : List Int} {i : Nat} (he : val (a.drop (i + 1)) = val (b.drop (i + 1))) (h : a.getD i 0 = b.getD i 0) : val (a.drop i) = val (b.drop i) := by
  rw [Vd a, Vd b, he, h]
theorem take_all {a : List Int} {n : Nat} (h : a.length ≤ n) : val (a.take n) = val a := by rw [List.take_of_length_le h]
theorem lt_pow_of_len {a : List Int} {n : Nat} (la : lim a) (h : a.length ≤ n) : val a < 2 ^ (64 * n) := Nat.lt_of_lt_of_le (val_lt la) (Nat.pow_le_pow_right (by omega) (by omega))
theorem add_fin {a b o : List Int} {N c : Nat} (la : lim a) (lb : lim b) (ha : a.length + 1 ≤ N) (hb : b.length + 1 ≤ N) (ho : o.length = N) (h : val (o.take N) + c * 2 ^ (64 * N) = val (a.take N) + val (b.take N)) : val o = val a + val b := by
  rw [take_all (by omega), take_all (by omega), take_all (by omega)] at h
  have h1 := lt_pow_of_len (n := N - 1) la (by omega)
  have h2 := lt_pow_of_len (n := N - 1) lb (by omega)
  have h3 : 2 ^ (64 * N) = 18446744073709551616 * 2 ^ (64 * (N - 1)) := by
    rw [← Pk, show N - 1 + 1 = N by omega]
  rw [h3] at h
  have hc : c = 0 := by
    refine Classical.byContradiction fun hc => ?_
    have : 1 * (18446744073709551616 * 2 ^ (64 * (N - 1))) ≤ c * (18446744073709551616 * 2 ^ (64 * (N - 1))) := Nat.mul_le_mul_right _ (by omega)
    omega
  rw [hc, Nat.zero_mul] at h
  exact h
theorem less_step {a b o : List Int} {i c : Nat} (la : lim a) (lb : lim b) (hc : c ≤ 1) (ho : i < o.length) (h : val (o.take i) + val (b.take i) = val (a.take i) + c * 2 ^ (64 * i)) :
    ∃ c' s : Nat, ((if a.getD i 0 < b.getD i 0 + (c : Int) then (1 : Int) else 0) = (c' : Int)) ∧ ((a.getD i 0 - b.getD i 0 - (c : Int)) % 18446744073709551616 = (s : Int)) ∧ c' ≤ 1 ∧ s < 18446744073709551616 ∧
      val ((o.set i (s : Int)).take (i + 1)) + val (b.take (i + 1)) = val (a.take (i + 1)) + c' * 2 ^ (64 * (i + 1)) := by
  have h1 := Mg la (i := i)
  have h2 := Mg lb (i := i)
  have key : ∀ c' s : Nat, s + (b.getD i 0).toNat + c = (a.getD i 0).toNat + 18446744073709551616 * c' → val ((o.set i (s : Int)).take (i + 1)) + val (b.take (i + 1)) = val (a.take (i + 1)) + c' * 2 ^ (64 * (i + 1)) := by
    intro c' s e
    rw [val_take_set ho, Vt, Vt, Pk, Int.toNat_natCast]
    generalize 2 ^ (64 * i) = p at *
    have e2 : p * (s + (b.getD i 0).toNat + c) = p * ((a.getD i 0).toNat + 18446744073709551616 * c') := by rw [e]
    grind
  by_cases hlt : a.getD i 0 < b.getD i 0 + (c : Int)
  · refine ⟨1, (a.getD i 0).toNat + 18446744073709551616 - (b.getD i 0).toNat - c, by rw [if_pos hlt]; rfl, ?_, by omega, ?_, key _ _ ?_⟩ <;> omega
  · refine ⟨0, (a.getD i 0).toNat - (b.getD i 0).toNat - c, by rw [if_neg hlt]; rfl, ?_, by omega, ?_, key _ _ ?_⟩ <;> omega
theorem less_fin {a b o : List Int} {N c : Nat} (la : lim a) (lb : lim b) (lo : lim o) (ha : a.length ≤ N) (hb : b.length ≤ N) (ho : o.length = N) (hle : val b ≤ val a) (h : val (o.take N) + val (b.take N) = val (a.take N) + c * 2 ^ (64 * N)) : val o = val a - val b := by
  rw [take_all (by omega), take_all hb, take_all ha] at h
  have h1 := lt_pow_of_len (n := N) lo (by omega)
  have hc : c = 0 := by
    refine Classical.byContradiction fun hc => ?_
    have : 1 * 2 ^ (64 * N) ≤ c * 2 ^ (64 * N) := Nat.mul_le_mul_right _ (by omega)
    omega
  rw [hc, Nat.zero_mul] at h
  omega
theorem add_step' {a b o : List Int} {i c : Nat} (la : lim a) (lb : lim b) (hc : c ≤ 1) (ho : i < o.length) (h : val (o.take i) + c * 2 ^ (64 * i) = val (a.take i) + val (b.take i)) :
    ∃ c' s : Nat, ((a.getD i 0 + b.getD i 0 + (c : Int)) / 18446744073709551616 = (c' : Int)) ∧ ((a.getD i 0 + b.getD i 0 + (c : Int)) % 18446744073709551616 = (s : Int)) ∧ c' ≤ 1 ∧ s < 18446744073709551616 ∧
      val ((o.set i (s : Int)).take (i + 1)) + c' * 2 ^ (64 * (i + 1)) = val (a.take (i + 1)) + val (b.take (i + 1)) := by
  have h1 := Mg la (i := i)
  have h2 := Mg lb (i := i)
  obtain ⟨c', s, e1, e2, e3, e4, e5⟩ := add_word hc h1 h2
  refine ⟨c', s, e1, e2, e4, e5, ?_⟩
  rw [val_take_set ho, Vt, Vt, Pk, Int.toNat_natCast]
  generalize 2 ^ (64 * i) = p at *
  have e6 : p * (s + 18446744073709551616 * c') = p * ((a.getD i 0).toNat + (b.getD i 0).toNat + c) := by rw [e3]
  grind
theorem left_lt {o a : List Int} {i w t : Nat} (la : lim a) (h : val o = val (a.take i) * 2 ^ (64 * w + t)) : val o < 2 ^ (64 * (i + w)) * 2 ^ t := by
  rw [h, pow64_add, Nat.pow_add, ← Nat.mul_assoc]
  exact Nat.mul_lt_mul_of_pos_right (Nat.mul_lt_mul_of_pos_right (val_take_lt la i) (Nat.two_pow_pos _)) (Nat.two_pow_pos _)
theorem left_step {o a : List Int} {i w t v : Nat} (la : lim a) (ht : t ≤ 63) (hi : i + w + 1 < o.length) (h : val o = val (a.take i) * 2 ^ (64 * w + t)) (hv : (o.getD (i + w) 0).toNat = v) (h1 : o.getD (i + w + 1) 0 = 0) :
    val ((o.set (i + w) ((v + (a.getD i 0).toNat * 2 ^ t % 18446744073709551616 : Nat) : Int)).set (i + w + 1) (((a.getD i 0).toNat / 2 ^ (64 - t) : Nat) : Int)) = val (a.take (i + 1)) * 2 ^ (64 * w + t) := by
  have e1 := val_set (o := o) (j := i + w) (by omega) ((v + (a.getD i 0).toNat * 2 ^ t % 18446744073709551616 : Nat) : Int)
  have e2 := val_set (o := o.set (i + w) ((v + (a.getD i 0).toNat * 2 ^ t % 18446744073709551616 : Nat) : Int)) (j := i + w + 1) (by simpa using hi) (((a.getD i 0).toNat / 2 ^ (64 - t) : Nat) : Int)
  rw [getD_set_other (by omega), h1] at e2
  rw [hv] at e1
  have h2 := Mg la (i := i)
  have e3 := mul_mod_div (x := (a.getD i 0).toNat) (s := t) (by omega) (by omega)
  rw [Vt, Pk, pow64_add] at *
  rw [Nat.pow_add] at *
  simp only [Int.toNat_natCast, Int.toNat_zero, Nat.mul_zero, Nat.add_zero] at *
  generalize (a.getD i 0).toNat = x at *
  generalize x * 2 ^ t % 18446744073709551616 = lo at *
  generalize x / 2 ^ (64 - t) = hi' at *
  generalize 2 ^ (64 * i) = p at *
  generalize 2 ^ (64 * w) = q at *
  generalize 2 ^ t = u at *
  rw [h] at e1
  generalize val (a.take i) = A at *
  have e4 : p * q * (lo + 18446744073709551616 * hi') = p * q * (x * u) := by rw [e3]
  grind
theorem left_step0 {o a : List Int} {i w : Nat} (la : lim a) (hi : i + w < o.length) (h : val o = val (a.take i) * 2 ^ (64 * w)) (h0 : o.getD (i + w) 0 = 0) :
    val (o.set (i + w) ((a.getD i 0))) = val (a.take (i + 1)) * 2 ^ (64 * w) := by
  have e1 := val_set (o := o) (j := i + w) hi (a.getD i 0)
  rw [h0] at e1
  rw [Vt, pow64_add] at *
  simp only [Int.toNat_zero, Nat.mul_zero, Nat.add_zero] at e1
  rw [e1, h]
  generalize 2 ^ (64 * i) = p at *
  generalize 2 ^ (64 * w) = q at *
  grind
theorem mul_word' {pr : Nat} {c w : Int} (h : pr ≤ 340282366920938463426481119284349108225) (hc : 0 ≤ c ∧ c < 18446744073709551616) (hw : 0 ≤ w ∧ w < 18446744073709551616) :
    ∃ c' s : Nat, (((((pr / 18446744073709551616 : Nat) : Int) + (((pr % 18446744073709551616 : Nat) : Int) + w + 0) / 18446744073709551616) % 18446744073709551616 + ((((pr % 18446744073709551616 : Nat) : Int) + w + 0) % 18446744073709551616 + c + 0) / 18446744073709551616) % 18446744073709551616 = (c' : Int)) ∧
      (((((pr % 18446744073709551616 : Nat) : Int) + w + 0) % 18446744073709551616 + c + 0) % 18446744073709551616 = (s : Int)) ∧ pr + c.toNat + w.toNat = c' * 18446744073709551616 + s ∧ c' < 18446744073709551616 ∧ s < 18446744073709551616 := by
  refine ⟨(pr + c.toNat + w.toNat) / 18446744073709551616, (pr + c.toNat + w.toNat) % 18446744073709551616, ?_, ?_, ?_, ?_, ?_⟩ <;> omega
theorem bits0 {x : Int} (hx : 0 ≤ x ∧ x < 18446744073709551616) : AM.bits .or .u64 0 x = x := by
  rw [or_u64 ⟨by omega, by omega⟩ hx]
  simp
  omega
def goneF (a : List Int) (w t j : Nat) : Bool := (decide (j < w) && (a.getD j 0 != 0)) || (decide (j = w) && (AM.bits .and .u64 (a.getD j 0) (2 ^ t - 1) != 0))
def goneS (a : List Int) (w t i : Nat) : Bool := (List.range i).any (goneF a w t)
theorem goneS_zero (a : List Int) (w t : Nat) : goneS a w t 0 = false := rfl
theorem goneS_succ (a : List Int) (w t i : Nat) : goneS a w t (i + 1) = (goneS a w t i || goneF a w t i) := by
  unfold goneS
  rw [List.range_succ, List.any_append]
  simp
theorem shr_dig {a : List Int} (la : lim a) {i t : Nat} (ht : t ≤ 63) :
    val (a.drop i) / 2 ^ t = ((a.getD i 0).toNat / 2 ^ t + (a.getD (i + 1) 0).toNat * 2 ^ (64 - t) % 18446744073709551616) + 18446744073709551616 * (val (a.drop (i + 1)) / 2 ^ t) := by
  have e1 := Vd a i
  have e2 := Vd a (i + 1)
  have h1 := Mg la (i := i + 1)
  have e3 : 18446744073709551616 = 2 ^ (64 - t) * 2 ^ t := by rw [← Nat.pow_add, show 64 - t + t = 64 by omega]
  rw [e1]
  generalize val (a.drop (i + 1)) = D at *
  generalize val (a.drop (i + 1 + 1)) = D2 at *
  rw [shr_val (by omega)]
  have e4 : (a.getD (i + 1) 0).toNat * 2 ^ (64 - t) % 18446744073709551616 = D % 2 ^ t * 2 ^ (64 - t) := by
    have e5 : D * 2 ^ (64 - t) % 18446744073709551616 = D % 2 ^ t * 2 ^ (64 - t) := by
      rw [e3, Nat.mul_comm (2 ^ (64 - t)), Nat.mul_mod_mul_right]
    rw [← e5, e2, Nat.add_mul, Nat.mul_assoc, Nat.add_mul_mod_self_left]
  rw [e4, Nat.add_assoc]
  congr 1
  have e6 := Nat.div_add_mod D (2 ^ t)
  generalize D / 2 ^ t = q at *
  generalize D % 2 ^ t = r at *
  rw [← e6, e3]
  generalize 2 ^ (64 - t) = u
  generalize 2 ^ t = v
  grind
theorem right_step {a o : List Int} (la : lim a) {i w t : Nat} (ht : t ≤ 63) (hl : o.length = i - w) (hw : w ≤ i) {x : Nat} (hx : x = (a.getD i 0).toNat / 2 ^ t + (a.getD (i + 1) 0).toNat * 2 ^ (64 - t) % 18446744073709551616)
    (h : val o + 2 ^ (64 * (i - w)) * (val (a.drop i) / 2 ^ t) = val (a.drop w) / 2 ^ t) : val (o ++ [(x : Int)]) + 2 ^ (64 * (i + 1 - w)) * (val (a.drop (i + 1)) / 2 ^ t) = val (a.drop w) / 2 ^ t := by
  rw [shr_dig la ht, ← hx] at h
  rw [val_snoc, hl, show i + 1 - w = (i - w) + 1 by omega, Pk, Int.toNat_natCast]
  generalize val (a.drop (i + 1)) / 2 ^ t = D at *
  generalize 2 ^ (64 * (i - w)) = p at *
  rw [← h]
  grind
theorem shr_lt' {a b s : Nat} (ha : a < 18446744073709551616) (hb : b < 18446744073709551616) (hs : s ≤ 63) : a / 2 ^ s + b * 2 ^ (64 - s) % 18446744073709551616 < 18446744073709551616 := shr_lt ha hb (by omega)
theorem right_x {a : List Int} (la : lim a) {i t : Nat} (ht : t ≤ 63) : (a.getD i 0).toNat / 2 ^ t + (a.getD (i + 1) 0).toNat * 2 ^ (64 - t) % 18446744073709551616 < 18446744073709551616 := by
  have h := shr_dig la (i := i) ht
  have h1 := Mg la (i := i)
  have h2 := Mg la (i := i + 1)
  exact shr_lt' (by omega) (by omega) ht
theorem right_fin {a o : List Int} (la : lim a) {i w t k : Nat} (hk : k = 64 * w + t) (hi : a.length ≤ i) (h : val o + 2 ^ (64 * (i - w)) * (val (a.drop i) / 2 ^ t) = val (a.drop w) / 2 ^ t) : val o = val a / 2 ^ k := by
  have e : val (a.drop i) = 0 := by rw [List.drop_eq_nil_of_le hi]; rfl
  rw [e, Nat.zero_div, Nat.mul_zero, Nat.add_zero, val_drop _ _ la, Nat.div_div_eq_div_mul, ← Nat.pow_add, ← hk] at h
  exact h
theorem gone_t1 {a : List Int} {w t s : Nat} (h1 : (s : Int) < w) (h2 : ¬ a.getD s 0 = 0) : goneS a w t (s + 1) = true := by
  rw [goneS_succ]; unfold goneF
  rw [decide_eq_true (show s < w by omega)]
  simp [h2]
  exact .inr (.inl (by simpa using h2))
theorem gone_t2 {a : List Int} {w t s : Nat} (h1 : (s : Int) = w) (h2 : ¬ AM.bits .and .u64 (a.getD s 0) (2 ^ t - 1) = 0) : goneS a w t (s + 1) = true := by
  rw [goneS_succ]; unfold goneF
  rw [decide_eq_true (show s = w by omega)]
  have h3 : (AM.bits .and .u64 (a.getD s 0) (2 ^ t - 1) != 0) = true := by rw [bne_iff_ne]; exact h2
  rw [h3]
  simp
theorem gone_f {a : List Int} {w t s : Nat} (h1 : (s : Int) < w → a.getD s 0 = 0) (h2 : (s : Int) = w → AM.bits .and .u64 (a.getD s 0) (2 ^ t - 1) = 0) : goneS a w t (s + 1) = goneS a w t s := by
  rw [goneS_succ]; unfold goneF
  have e1 : (decide (s < w) && (a.getD s 0 != 0)) = false := by
    by_cases h : s < w
    · rw [h1 (by omega)]; simp
    · rw [decide_eq_false h]; simp
  have e2 : (decide (s = w) && (AM.bits .and .u64 (a.getD s 0) (2 ^ t - 1) != 0)) = false := by
    by_cases h : s = w
    · rw [h2 (by omega)]; simp
    · rw [decide_eq_false h]; simp
  rw [e1, e2]; simp
def rX (a : List Int) (i t : Nat) : Nat := (a.getD i 0).toNat / 2 ^ t + (a.getD (i + 1) 0).toNat * 2 ^ (64 - t) % 18446744073709551616
theorem rX_lt {a : List Int} (la : lim a) {i t : Nat} (ht : t ≤ 63) : rX a i t < 18446744073709551616 := right_x la ht
theorem rX0 {a : List Int} (la : lim a) {i t : Nat} (ht : t = 0) : a.getD i 0 / 2 ^ t = (rX a i t : Int) := by
  have h := Mg la (i := i)
  unfold rX
  rw [castShr2 h.1, ht]
  have : (a.getD (i + 1) 0).toNat * 2 ^ (64 - 0) % 18446744073709551616 = 0 := by omega
  rw [this]; simp
theorem rX1 {a : List Int} (la : lim a) {i t : Nat} (ht : t ≤ 63) : AM.bits .or .u64 (a.getD i 0 / 2 ^ t) (a.getD (i + 1) 0 * 2 ^ (64 - t) % 18446744073709551616) = (rX a i t : Int) :=
  shr_word (Mg la) (Mg la) (by omega)
theorem right_go {a o : List Int} (la : lim a) {i w t : Nat} (ht : t ≤ 63) (hl : o.length = i - w) (hw : w ≤ i)
    (h : val o + 2 ^ (64 * (i - w)) * (val (a.drop i) / 2 ^ t) = val (a.drop w) / 2 ^ t) : val (o ++ [(rX a i t : Int)]) + 2 ^ (64 * (i + 1 - w)) * (val (a.drop (i + 1)) / 2 ^ t) = val (a.drop w) / 2 ^ t :=
  right_step la ht hl hw rfl h
end Go.AM.LN
set_option maxRecDepth 20000
namespace Go.AM.LN
open Go

def lowS (x y : Nat) : Int := if x * 2 ^ (-((blen x : Int) - (blen y : Int))).toNat < y * 2 ^ ((blen x : Int) - (blen y : Int)).toNat then (blen x : Int) - (blen y : Int) - 1 else (blen x : Int) - (blen y : Int)
theorem mul_pow_le {a b m n : Nat} (h : a * 2 ^ m ≤ b * 2 ^ n) (k : Nat) : a * 2 ^ (m + k) ≤ b * 2 ^ (n + k) := by
  rw [Nat.pow_add, Nat.pow_add, ← Nat.mul_assoc, ← Nat.mul_assoc]; exact Nat.mul_le_mul_right _ h
theorem mul_pow_lt {a b m n : Nat} (h : a * 2 ^ m < b * 2 ^ n) (k : Nat) : a * 2 ^ (m + k) < b * 2 ^ (n + k) := by
  rw [Nat.pow_add, Nat.pow_add, ← Nat.mul_assoc, ← Nat.mul_assoc]; exact Nat.mul_lt_mul_of_pos_right h (Nat.two_pow_pos _)
theorem mul_pow_le_of {a b m n k : Nat} (h : a * 2 ^ (m + k) ≤ b * 2 ^ (n + k)) : a * 2 ^ m ≤ b * 2 ^ n := by
  rw [Nat.pow_add, Nat.pow_add, ← Nat.mul_assoc, ← Nat.mul_assoc] at h; exact Nat.le_of_mul_le_mul_right h (Nat.two_pow_pos _)
theorem mul_pow_lt_of {a b m n k : Nat} (h : a * 2 ^ (m + k) < b * 2 ^ (n + k)) : a * 2 ^ m < b * 2 ^ n := by
  rw [Nat.pow_add, Nat.pow_add, ← Nat.mul_assoc, ← Nat.mul_assoc] at h; exact Nat.lt_of_mul_lt_mul_right h
theorem shift_le {a b m n m' n' : Nat} (h : a * 2 ^ m ≤ b * 2 ^ n) (he : (m : Int) - n = (m' : Int) - n') : a * 2 ^ m' ≤ b * 2 ^ n' := by
  by_cases hm : m ≤ m'
  · have := mul_pow_le h (m' - m)
    rw [show m + (m' - m) = m' by omega, show n + (m' - m) = n' by omega] at this
    exact this
  · refine mul_pow_le_of (k := m - m') ?_
    rw [show m' + (m - m') = m by omega, show n' + (m - m') = n by omega]
    exact h
theorem shift_lt' {a b m n m' n' : Nat} (h : a * 2 ^ m < b * 2 ^ n) (he : (m : Int) - n = (m' : Int) - n') : a * 2 ^ m' < b * 2 ^ n' := by
  by_cases hm : m ≤ m'
  · have := mul_pow_lt h (m' - m)
    rw [show m + (m' - m) = m' by omega, show n + (m' - m) = n' by omega] at this
    exact this
  · refine mul_pow_lt_of (k := m - m') ?_
    rw [show m' + (m - m') = m by omega, show n' + (m - m') = n by omega]
    exact h
theorem lowS_ok {x y : Nat} (hx : 0 < x) (hy : 0 < y) : y * 2 ^ (lowS x y).toNat ≤ x * 2 ^ (-lowS x y).toNat ∧ x * 2 ^ (-(lowS x y + 1)).toNat < y * 2 ^ (lowS x y + 1).toNat := by
  have bx1 : 1 ≤ blen x := by have := @blen_zero x; omega
  have by1 : 1 ≤ blen y := by have := @blen_zero y; omega
  have x1 : 2 ^ (blen x - 1) ≤ x := blen_le.1 (by omega)
  have x2 : x < 2 ^ blen x := blen_lt.1 (Nat.le_refl _)
  have y1 : 2 ^ (blen y - 1) ≤ y := blen_le.1 (by omega)
  have y2 : y < 2 ^ blen y := blen_lt.1 (Nat.le_refl _)
  have h1 : y * 2 ^ (blen x - 1) ≤ x * 2 ^ blen y := by
    have : 2 ^ (blen x - 1) * y ≤ x * 2 ^ blen y := Nat.mul_le_mul x1 (Nat.le_of_lt y2)
    rw [Nat.mul_comm]; exact this
  have h2 : x * 2 ^ (blen y - 1) < y * 2 ^ blen x := by
    have e1 : x * 2 ^ (blen y - 1) < 2 ^ blen x * 2 ^ (blen y - 1) := Nat.mul_lt_mul_of_pos_right x2 (Nat.two_pow_pos _)
    have e2 : 2 ^ blen x * 2 ^ (blen y - 1) ≤ 2 ^ blen x * y := Nat.mul_le_mul_left _ y1
    rw [Nat.mul_comm y]; omega
  unfold lowS
  split
  · rename_i h
    refine ⟨shift_le h1 (by omega), ?_⟩
    rw [show (blen x : Int) - (blen y : Int) - 1 + 1 = (blen x : Int) - (blen y : Int) by omega]
    exact h
  · rename_i h
    exact ⟨Nat.le_of_not_lt h, shift_lt' h2 (by omega)⟩
theorem lowS_bound {x y : Nat} (hx : 0 < x) (hy : 0 < y) : (blen x : Int) - (blen y : Int) - 1 ≤ lowS x y ∧ lowS x y ≤ (blen x : Int) - (blen y : Int) := by
  unfold lowS; split <;> omega
def rlow (x y : Nat) (e : Int) : Int := lowS x y + e
def rq (n : Int) (x y : Nat) (e : Int) : Int := max (2 - fe n - fp n) (rlow x y e - fp n + 1)
def rdiv (n d : Int) (s : Bool) (x y : Nat) (e : Int) : Nat × Bool := divS d s (x * 2 ^ (e - rq n x y e).toNat) (y * 2 ^ (-(e - rq n x y e)).toNat)
def rc (n d : Int) (s : Bool) (x y : Nat) (e : Int) : Nat := if (blen (rdiv n d s x y e).1 : Int) > fp n then (rdiv n d s x y e).1 / 2 else (rdiv n d s x y e).1
def rq2 (n d : Int) (s : Bool) (x y : Nat) (e : Int) : Int := if (blen (rdiv n d s x y e).1 : Int) > fp n then rq n x y e + 1 else rq n x y e
def ovV (n d : Int) (s : Bool) : Nat := if infS d s then packS n 2 s false 0 0 else packS n 1 s false (2 ^ (fp n).toNat - 1) (fe n + 1 - fp n)
def rndV (n d : Int) (s : Bool) (x y : Nat) (e : Int) : Nat :=
  if x = 0 then packS n 1 s false 0 (2 - fe n - fp n)
  else if rq2 n d s x y e > fe n + 1 - fp n then ovV n d s
  else packS n 1 s false (rc n d s x y e) (rq2 n d s x y e)
def rndF (n d : Int) (s : Bool) (x y : Nat) (e : Int) : Int :=
  if x = 0 then 0
  else if rq2 n d s x y e > fe n + 1 - fp n then 10
  else if (rdiv n d s x y e).2 then 0 else if rlow x y e < 2 - fe n - fp n + fp n - 1 then 12 else 8
theorem divS_le {d : Int} {s : Bool} {x y : Nat} : x / y ≤ (divS d s x y).1 ∧ (divS d s x y).1 ≤ x / y + 1 := by
  unfold divS; split
  · exact ⟨Nat.le_refl _, by omega⟩
  · split <;> (dsimp only; omega)
theorem rdiv_ok {n d : Int} {s : Bool} {x y : Nat} {e : Int} (hn : 1 ≤ n ∧ n ≤ 6) (hx : 0 < x) (hy : 0 < y) (hl : 2 - fe n - fp n - 1 ≤ rlow x y e) :
    ((rq n x y e = rlow x y e - fp n + 1 ∧ 2 ^ (fp n - 1).toNat ≤ (rdiv n d s x y e).1 ∧ (rdiv n d s x y e).1 ≤ 2 ^ (fp n).toNat) ∨ (rq n x y e = 2 - fe n - fp n ∧ (rdiv n d s x y e).1 ≤ 2 ^ (fp n - 1).toNat)) := by
  have F := bfmt hn
  have F1 := F.p8
  obtain ⟨L1, L2⟩ := lowS_ok hx hy
  have hX : ∀ k : Int, k = e - rq n x y e → x * 2 ^ k.toNat / (y * 2 ^ (-k).toNat) ≤ (rdiv n d s x y e).1 ∧ (rdiv n d s x y e).1 ≤ x * 2 ^ k.toNat / (y * 2 ^ (-k).toNat) + 1 := fun k hk => by subst hk; exact divS_le
  have hY : ∀ k : Int, 0 < y * 2 ^ (-k).toNat := fun k => Nat.mul_pos hy (Nat.two_pow_pos _)
  by_cases hc : 2 - fe n - fp n < rlow x y e - fp n + 1
  · have hq : rq n x y e = rlow x y e - fp n + 1 := by unfold rq; omega
    left
    obtain ⟨k, hk⟩ : ∃ k, k = e - rq n x y e := ⟨_, rfl⟩
    have hkL : k = fp n - 1 - lowS x y := by rw [hk, hq]; unfold rlow; omega
    obtain ⟨h1, h2⟩ := hX k hk
    have lo : y * 2 ^ (-k).toNat * 2 ^ (fp n - 1).toNat ≤ x * 2 ^ k.toNat := by
      rw [Nat.mul_assoc, ← Nat.pow_add]
      exact shift_le L1 (by omega)
    have up : x * 2 ^ k.toNat < y * 2 ^ (-k).toNat * 2 ^ (fp n).toNat := by
      rw [Nat.mul_assoc, ← Nat.pow_add]
      exact shift_lt' L2 (by omega)
    refine ⟨hq, Nat.le_trans ((Nat.le_div_iff_mul_le (hY k)).2 (by rw [Nat.mul_comm]; exact lo)) h1, Nat.le_trans h2 ?_⟩
    have := (Nat.div_lt_iff_lt_mul (hY k)).2 (by rw [Nat.mul_comm]; exact up)
    omega
  · have hq : rq n x y e = 2 - fe n - fp n := by unfold rq; omega
    obtain ⟨k, hk⟩ : ∃ k, k = e - rq n x y e := ⟨_, rfl⟩
    have hkL : k = e - (2 - fe n - fp n) := by rw [hk, hq]
    obtain ⟨h1, h2⟩ := hX k hk
    have hrl : rlow x y e = lowS x y + e := rfl
    by_cases hc2 : rlow x y e - fp n + 1 = 2 - fe n - fp n
    · left
      have lo : y * 2 ^ (-k).toNat * 2 ^ (fp n - 1).toNat ≤ x * 2 ^ k.toNat := by
        rw [Nat.mul_assoc, ← Nat.pow_add]
        exact shift_le L1 (by omega)
      have up : x * 2 ^ k.toNat < y * 2 ^ (-k).toNat * 2 ^ (fp n).toNat := by
        rw [Nat.mul_assoc, ← Nat.pow_add]
        exact shift_lt' L2 (by omega)
      refine ⟨by omega, Nat.le_trans ((Nat.le_div_iff_mul_le (hY k)).2 (by rw [Nat.mul_comm]; exact lo)) h1, Nat.le_trans h2 ?_⟩
      have := (Nat.div_lt_iff_lt_mul (hY k)).2 (by rw [Nat.mul_comm]; exact up)
      omega
    · right
      have up : x * 2 ^ k.toNat < y * 2 ^ (-k).toNat * 2 ^ (fp n - 1).toNat := by
        refine Nat.lt_of_lt_of_le (m := y * 2 ^ (-k).toNat * 2 ^ (rlow x y e + 1 - (2 - fe n - fp n)).toNat) ?_ (Nat.mul_le_mul_left _ (Nat.pow_le_pow_right (by omega) (by omega)))
        rw [Nat.mul_assoc, ← Nat.pow_add]
        exact shift_lt' L2 (by omega)
      refine ⟨hq, Nat.le_trans h2 ?_⟩
      have := (Nat.div_lt_iff_lt_mul (hY k)).2 (by rw [Nat.mul_comm]; exact up)
      omega
theorem rdiv_tiny {n d : Int} {s : Bool} {x y : Nat} {e : Int} (hx : 0 < x) (hy : 0 < y) (hp : 1 ≤ fp n) (hl : rlow x y e < 2 - fe n - fp n - 1) : rq n x y e = 2 - fe n - fp n ∧ rdiv n d s x y e = divS d s 1 4 := by
  obtain ⟨L1, L2⟩ := lowS_ok hx hy
  have hq : rq n x y e = 2 - fe n - fp n := by unfold rq; omega
  refine ⟨hq, ?_⟩
  unfold rdiv
  rw [hq]
  obtain ⟨k, hk⟩ : ∃ k, k = e - (2 - fe n - fp n) := ⟨_, rfl⟩
  rw [← hk]
  have hrl : rlow x y e = lowS x y + e := rfl
  have up : x * 2 ^ k.toNat * 2 < y * 2 ^ (-k).toNat := by
    refine Nat.lt_of_le_of_lt (m := x * 2 ^ k.toNat * 2 ^ (2 - fe n - fp n - 1 - rlow x y e).toNat) (Nat.mul_le_mul_left _ (by
      have : 2 ^ 1 ≤ 2 ^ (2 - fe n - fp n - 1 - rlow x y e).toNat := Nat.pow_le_pow_right (by omega) (by omega)
      omega)) ?_
    rw [Nat.mul_assoc, ← Nat.pow_add]
    exact shift_lt' L2 (by omega)
  have hX : 0 < x * 2 ^ k.toNat := Nat.mul_pos hx (Nat.two_pow_pos _)
  generalize x * 2 ^ k.toNat = X at *
  generalize y * 2 ^ (-k).toNat = Y at *
  have h1 : X / Y = 0 := Nat.div_eq_of_lt (by omega)
  have h2 : X % Y = X := Nat.mod_eq_of_lt (by omega)
  have a1 : divS d s X Y = (if upS d s (0 % 2 == 1) (-1) = true then 0 + 1 else 0, false) := by
    unfold divS
    rw [h1, h2, cmpI_lt (by omega), if_neg (by omega)]
  have a2 : divS d s 1 4 = (if upS d s (0 % 2 == 1) (-1) = true then 0 + 1 else 0, false) := rfl
  rw [a1, a2]
def okR (n d : Int) : Bool := decide (1 ≤ n ∧ n ≤ 6) && decide (0 ≤ d ∧ d ≤ 4)
def roundV (n d : Int) (s : Bool) (x y : Nat) (e : Int) : Nat := if okR n d then rndV n d s x y e else 0
def roundF (n d : Int) (s : Bool) (x y : Nat) (e : Int) : Int := if okR n d then rndF n d s x y e else 0
def roundE (n d : Int) : Int := if okR n d then 0 else 1
theorem okB0 (n : Int) : okB n 0 = decide (1 ≤ n ∧ n ≤ 6) := by
  unfold okB
  by_cases h : 1 ≤ n ∧ n ≤ 6
  · have F := bfmt h
    have := F.w
    have := F.p8
    have := F.x5
    have h0 : (blen 0 : Int) = 0 := rfl
    rw [decide_eq_true h, Bool.true_and, h0, decide_eq_true_eq]; omega
  · rw [decide_eq_false h, Bool.false_and]
theorem blen_ones (k : Nat) : blen (2 ^ k - 1) = k := by
  have hp := Nat.two_pow_pos k
  cases k with
  | zero => rfl
  | succ k =>
    refine blen_eq ?_ ?_
    · have : 2 ^ (k + 1) = 2 * 2 ^ k := by rw [Nat.pow_succ, Nat.mul_comm]
      have := Nat.two_pow_pos k
      omega
    · omega
theorem len_pow {x k : Nat} (h : x ≠ 0) : (limbs (x * 2 ^ k)).length = (blen x + k + 63) / 64 := by
  rw [len_limbs, blen_mul h]
theorem blen_le_len (x : Nat) : blen x ≤ 64 * (limbs x).length := by rw [len_limbs]; omega
theorem or84 : AM.bits .or .i64 8 4 = 12 := by decide
end Go.AM.LN
set_option maxRecDepth 20000
namespace Go.AM.LN
structure OvI (x y k r Q : Nat) : Prop where
  e : x = Q * y + r
  l : r < y * 2 ^ k
  m : Q % 2 ^ k = 0
theorem ov_init {x y : Nat} (hy : 0 < y) (h : blen y ≤ blen x) : OvI x y (blen x - blen y + 1) x 0 := by
  refine ⟨by omega, ?_, Nat.zero_mod _⟩
  have b1 : 1 ≤ blen y := by have := @blen_zero y; omega
  have y1 : 2 ^ (blen y - 1) ≤ y := blen_le.1 (by omega)
  have x2 : x < 2 ^ blen x := blen_lt.1 (Nat.le_refl _)
  refine Nat.lt_of_lt_of_le x2 ?_
  rw [show blen x = blen y - 1 + (blen x - blen y + 1) by omega, Nat.pow_add]
  rw [show blen y - 1 + (blen x - blen y + 1) - blen y + 1 = blen x - blen y + 1 by omega]
  exact Nat.mul_le_mul_right _ y1
theorem mod_half {Q k : Nat} (h : Q % 2 ^ (k + 1) = 0) : Q % 2 ^ k = 0 := by
  obtain ⟨m, rfl⟩ := Nat.dvd_of_mod_eq_zero h
  rw [Nat.pow_succ, Nat.mul_assoc, Nat.mul_mod_right]
theorem ov_no {x y k r Q : Nat} (h : OvI x y (k + 1) r Q) (hr : r < y * 2 ^ k) : OvI x y k r Q := ⟨h.e, hr, mod_half h.m⟩
theorem ov_yes {x y k r Q : Nat} (h : OvI x y (k + 1) r Q) (hr : y * 2 ^ k ≤ r) : OvI x y k (r - y * 2 ^ k) (Q + 2 ^ k) := by
  refine ⟨?_, ?_, ?_⟩
  · have := h.e
    rw [Nat.add_mul, Nat.mul_comm (2 ^ k)]
    omega
  · have := h.l
    rw [Nat.pow_succ, ← Nat.mul_assoc] at this
    omega
  · rw [Nat.add_mod, mod_half h.m, Nat.mod_self]; simp
theorem ov_fin {x y r Q : Nat} (h : OvI x y 0 r Q) : Q = x / y ∧ r = x % y := by
  have h1 := h.l
  rw [Nat.pow_zero, Nat.mul_one] at h1
  have := dm_add x y Q r (by omega) h1 h.e
  exact ⟨this.1.symm, this.2.symm⟩
theorem half_pow (y k : Nat) : y * 2 ^ (k + 1) / 2 = y * 2 ^ k := by
  rw [Nat.pow_succ, ← Nat.mul_assoc, Nat.mul_div_cancel _ (by omega)]
theorem set_bit {q : List Int} (lq : lim q) {k : Nat} (hk : k / 64 < q.length) (h : val q % 2 ^ (k + 1) = 0) :
    AM.bits .or .u64 (q.getD (k / 64) 0) (2 ^ (k % 64)) = (((q.getD (k / 64) 0).toNat + 2 ^ (k % 64) : Nat) : Int) ∧ (q.getD (k / 64) 0).toNat + 2 ^ (k % 64) < 18446744073709551616 ∧ val (q.set (k / 64) (((q.getD (k / 64) 0).toNat + 2 ^ (k % 64) : Nat) : Int)) = val q + 2 ^ k := by
  have hd := val_getD q (k / 64) lq
  have hg := Mg lq (i := k / 64)
  have ht : k % 64 < 64 := Nat.mod_lt _ (by omega)
  have hk2 : k = 64 * (k / 64) + k % 64 := by omega
  generalize k / 64 = w at *
  generalize k % 64 = t at *
  obtain ⟨c, hc⟩ : ∃ c, (q.getD w 0).toNat = c := ⟨_, rfl⟩
  have hcm : c % 2 ^ (t + 1) = 0 := by
    rw [← hc, ← hd]
    have e1 : (18446744073709551616 : Nat) = 2 ^ (t + 1) * 2 ^ (64 - (t + 1)) := by rw [← Nat.pow_add, show t + 1 + (64 - (t + 1)) = 64 by omega]
    rw [e1, Nat.mod_mul_right_mod]
    obtain ⟨m, hm⟩ := Nat.dvd_of_mod_eq_zero h
    rw [hm, hk2, show 64 * w + t + 1 = 64 * w + (t + 1) by omega, Nat.pow_add, Nat.mul_assoc, Nat.mul_div_cancel_left _ (Nat.two_pow_pos _), Nat.mul_mod_right]
  have ht2 : 2 ^ t < 18446744073709551616 := Nat.pow_lt_pow_right (by omega) ht
  have hsum : c + 2 ^ t < 18446744073709551616 := by
    obtain ⟨m, hm⟩ := Nat.dvd_of_mod_eq_zero hcm
    have e1 : (18446744073709551616 : Nat) = 2 ^ (t + 1) * 2 ^ (64 - (t + 1)) := by rw [← Nat.pow_add, show t + 1 + (64 - (t + 1)) = 64 by omega]
    have hlt : c < 18446744073709551616 := by omega
    rw [hm, e1] at hlt
    have h3 : m < 2 ^ (64 - (t + 1)) := Nat.lt_of_mul_lt_mul_left hlt
    have h4 : 2 ^ (t + 1) * (m + 1) ≤ 18446744073709551616 := by rw [e1]; exact Nat.mul_le_mul_left _ h3
    rw [Nat.mul_add, Nat.mul_one, ← hm, Nat.pow_succ] at h4
    have := Nat.two_pow_pos t
    omega
  have hor : c ||| 2 ^ t = c + 2 ^ t := by
    obtain ⟨m, hm⟩ := Nat.dvd_of_mod_eq_zero hcm
    rw [hm, Nat.mul_comm, ← Nat.shiftLeft_eq, ← Nat.shiftLeft_add_eq_or_of_lt (Nat.pow_lt_pow_right (by omega) (by omega))]
  have hp : ((2 : Int) ^ t).toNat = 2 ^ t := by
    have : ((2 : Int) ^ t) = ((2 ^ t : Nat) : Int) := by simp
    rw [this, Int.toNat_natCast]
  have hp2 : 0 ≤ (2 : Int) ^ t ∧ (2 : Int) ^ t < 18446744073709551616 := by
    have : ((2 : Int) ^ t) = ((2 ^ t : Nat) : Int) := by simp
    rw [this]; omega
  refine ⟨?_, by rw [hc]; exact hsum, ?_⟩
  · rw [or_u64 hg hp2, hp, hc, hor]
  · have hs := val_set hk (((c + 2 ^ t : Nat)) : Int)
    rw [hc] at hs ⊢
    rw [Int.toNat_natCast, Nat.mul_add, ← Nat.pow_add, ← hk2] at hs
    omega
theorem pow_int {t : Nat} (ht : t < 64) : 1 * (2 : Int) ^ t % 18446744073709551616 = 2 ^ t := by
  have : ((2 : Int) ^ t) = ((2 ^ t : Nat) : Int) := by simp
  have h2 : 2 ^ t < 18446744073709551616 := Nat.pow_lt_pow_right (by omega) ht
  rw [Int.one_mul, this]
  generalize 2 ^ t = z at *
  omega
theorem pw_odd {x y m B : Nat} (h : x * y ^ m = B) (hm : m % 2 = 1) : x * y * (y * y) ^ (m / 2) = B := by
  have e : m = 2 * (m / 2) + 1 := by omega
  rw [e, Nat.pow_succ, Nat.pow_mul] at h
  rw [show y ^ 2 = y * y by rw [Nat.pow_succ, Nat.pow_one]] at h
  rw [← h, Nat.mul_assoc, Nat.mul_comm y]
theorem pw_even {x y m B : Nat} (h : x * y ^ m = B) (hm : ¬ m % 2 = 1) : x * (y * y) ^ (m / 2) = B := by
  have e : m = 2 * (m / 2) := by omega
  rw [e, Nat.pow_mul] at h
  rw [show y ^ 2 = y * y by rw [Nat.pow_succ, Nat.pow_one]] at h
  exact h
theorem pw_le {x y m B : Nat} (h : x * y ^ m = B) (hB : 0 < B) (hm : 0 < m) : x ≤ B ∧ y ≤ B ∧ 0 < x ∧ 0 < y := by
  have hx : 0 < x := Nat.pos_of_ne_zero fun h0 => by subst h0; simp at h; omega
  have hy : 0 < y := Nat.pos_of_ne_zero fun h0 => by subst h0; rw [Nat.zero_pow hm] at h; omega
  have h1 : 0 < y ^ m := Nat.pow_pos hy
  refine ⟨?_, ?_, hx, hy⟩
  · rw [← h]; exact Nat.le_mul_of_pos_right _ h1
  · rw [← h]
    exact Nat.le_trans (Nat.le_self_pow (by omega) y) (Nat.le_mul_of_pos_left _ hx)
theorem pw_len {b n : Nat} (hb : b < 18446744073709551616) : (limbs (b ^ n)).length ≤ n + 1 := by
  refine len_le_of (Nat.lt_of_le_of_lt (m := 2 ^ (64 * n)) ?_ (Nat.pow_lt_pow_right (by omega) (by omega)))
  rw [Nat.pow_mul]
  exact Nat.pow_le_pow_left (Nat.le_of_lt hb) n
theorem limbs_getD (X i : Nat) : (limbs X).getD i 0 = w4 X i := by
  have h := val_getD (limbs X) i (Ml X)
  rw [Vl] at h
  have := Mg (Ml X) (i := i)
  unfold w4
  omega
end Go.AM.LN
set_option maxRecDepth 20000
namespace Go.AM.LN
open Go
section
variable {n d : Int} {s : Bool} {x y : Nat} {e : Int} {c : Nat} {ex : Bool}
theorem rnd_num1 (hx : x ≠ 0) (hD : rdiv n d s x y e = (c, ex)) (hP : fp n < (blen c : Int)) (hM : rq n x y e + 1 ≤ fe n + 1 - fp n) : rndV n d s x y e = packS n 1 s false (c / 2) (rq n x y e + 1) := by
  have h2 : rq2 n d s x y e = rq n x y e + 1 := by unfold rq2; rw [hD, if_pos hP]
  have h3 : rc n d s x y e = c / 2 := by unfold rc; rw [hD, if_pos hP]
  unfold rndV; rw [if_neg hx, h2, h3, if_neg (by omega)]
theorem rnd_num0 (hx : x ≠ 0) (hD : rdiv n d s x y e = (c, ex)) (hP : (blen c : Int) ≤ fp n) (hM : rq n x y e ≤ fe n + 1 - fp n) : rndV n d s x y e = packS n 1 s false c (rq n x y e) := by
  have h2 : rq2 n d s x y e = rq n x y e := by unfold rq2; rw [hD, if_neg (by dsimp only; omega)]
  have h3 : rc n d s x y e = c := by unfold rc; rw [hD, if_neg (by dsimp only; omega)]
  unfold rndV; rw [if_neg hx, h2, h3, if_neg (by omega)]
theorem rnd_ov1 (hx : x ≠ 0) (hD : rdiv n d s x y e = (c, ex)) (hP : fp n < (blen c : Int)) (hM : fe n + 1 - fp n < rq n x y e + 1) : rndV n d s x y e = ovV n d s ∧ rndF n d s x y e = 10 := by
  have h2 : rq2 n d s x y e = rq n x y e + 1 := by unfold rq2; rw [hD, if_pos hP]
  unfold rndV rndF; rw [if_neg hx, if_neg hx, h2, if_pos (by omega), if_pos (by omega)]; exact ⟨rfl, rfl⟩
theorem rnd_ov0 (hx : x ≠ 0) (hD : rdiv n d s x y e = (c, ex)) (hP : (blen c : Int) ≤ fp n) (hM : fe n + 1 - fp n < rq n x y e) : rndV n d s x y e = ovV n d s ∧ rndF n d s x y e = 10 := by
  have h2 : rq2 n d s x y e = rq n x y e := by unfold rq2; rw [hD, if_neg (by dsimp only; omega)]
  unfold rndV rndF; rw [if_neg hx, if_neg hx, h2, if_pos (by omega), if_pos (by omega)]; exact ⟨rfl, rfl⟩
theorem rnd_ovA (hx : x ≠ 0) (hM : fe n + 1 - fp n < rq n x y e) : rndV n d s x y e = ovV n d s ∧ rndF n d s x y e = 10 := by
  have h2 : rq2 n d s x y e > fe n + 1 - fp n := by unfold rq2; split <;> omega
  unfold rndV rndF; rw [if_neg hx, if_neg hx, if_pos h2, if_pos h2]; exact ⟨rfl, rfl⟩
theorem rnd_f (hx : x ≠ 0) (hD : rdiv n d s x y e = (c, ex)) (hM : (fp n < (blen c : Int) ∧ rq n x y e + 1 ≤ fe n + 1 - fp n) ∨ ((blen c : Int) ≤ fp n ∧ rq n x y e ≤ fe n + 1 - fp n)) :
    (ex = true → rndF n d s x y e = 0) ∧ (ex = false → rlow x y e < 2 - fe n - fp n + fp n - 1 → rndF n d s x y e = 12) ∧ (ex = false → ¬ rlow x y e < 2 - fe n - fp n + fp n - 1 → rndF n d s x y e = 8) := by
  have h2 : ¬ rq2 n d s x y e > fe n + 1 - fp n := by
    unfold rq2; rw [hD]
    split
    · rename_i h; dsimp only at h; omega
    · rename_i h; dsimp only at h; omega
  have h3 : (rdiv n d s x y e).2 = ex := by rw [hD]
  unfold rndF
  rw [if_neg hx, if_neg h2, h3]
  refine ⟨fun h => by rw [h, if_pos rfl], fun h h4 => ?_, fun h h4 => ?_⟩
  · rw [h, if_neg (by simp), if_pos h4]
  · rw [h, if_neg (by simp), if_neg h4]
theorem rnd_isD1 (hf : 8 ≤ fp n) (hO : (rq n x y e = rlow x y e - fp n + 1 ∧ 2 ^ (fp n - 1).toNat ≤ c ∧ c ≤ 2 ^ (fp n).toNat) ∨ (rq n x y e = 2 - fe n - fp n ∧ c ≤ 2 ^ (fp n - 1).toNat)) (hq : 2 - fe n - fp n ≤ rq n x y e)
    (hP : fp n < (blen c : Int)) (hM : rq n x y e + 1 ≤ fe n + 1 - fp n) : isD n 1 false (c / 2) (rq n x y e + 1) := by
  have h1 : 2 ^ (fp n).toNat ≤ c := blen_le.1 (by omega)
  have h2 : 2 ^ (fp n).toNat = 2 ^ (fp n - 1).toNat * 2 := by rw [← Nat.pow_succ]; congr 1; omega
  have hp := Nat.two_pow_pos (fp n - 1).toNat
  have h3 : c = 2 ^ (fp n).toNat := by
    rcases hO with ⟨_, _, h⟩ | ⟨_, h⟩ <;> omega
  have h4 : c / 2 = 2 ^ (fp n - 1).toNat := by omega
  have h5 : blen (c / 2) = (fp n - 1).toNat + 1 := by rw [h4]; exact blen_eq (Nat.le_refl _) (by rw [Nat.pow_succ]; omega)
  exact .inl ⟨rfl, rfl, by omega, hM, .inl (by rw [h5]; omega)⟩
theorem rnd_isD0 (hf : 8 ≤ fp n) (hO : (rq n x y e = rlow x y e - fp n + 1 ∧ 2 ^ (fp n - 1).toNat ≤ c ∧ c ≤ 2 ^ (fp n).toNat) ∨ (rq n x y e = 2 - fe n - fp n ∧ c ≤ 2 ^ (fp n - 1).toNat)) (hq : 2 - fe n - fp n ≤ rq n x y e)
    (hP : (blen c : Int) ≤ fp n) (hM : rq n x y e ≤ fe n + 1 - fp n) : isD n 1 false c (rq n x y e) := by
  refine .inl ⟨rfl, rfl, hq, hM, ?_⟩
  rcases hO with ⟨_, h1, _⟩ | ⟨h, _⟩
  · have := blen_le.2 h1
    exact .inl (by omega)
  · by_cases h2 : (blen c : Int) = fp n
    · exact .inl h2
    · exact .inr ⟨by omega, h⟩
theorem rq_b : 2 - fe n - fp n ≤ rq n x y e ∧ rlow x y e - fp n + 1 ≤ rq n x y e ∧ (rq n x y e = 2 - fe n - fp n ∨ rq n x y e = rlow x y e - fp n + 1) := by unfold rq; omega
end
theorem okR_n {n d : Int} (h : ¬ (1 ≤ n ∧ n ≤ 6)) : okR n d = false := by unfold okR; rw [decide_eq_false h, Bool.false_and]
theorem okR_d {n d : Int} (h : ¬ (0 ≤ d ∧ d ≤ 4)) : okR n d = false := by unfold okR; rw [decide_eq_false h, Bool.and_false]
theorem okR_y {n d : Int} (h : 1 ≤ n ∧ n ≤ 6) (h2 : 0 ≤ d ∧ d ≤ 4) : okR n d = true := by unfold okR; rw [decide_eq_true h, decide_eq_true h2]; rfl
theorem round_no {n d : Int} (h : okR n d = false) (s : Bool) (x y : Nat) (e : Int) : roundE n d = 1 ∧ roundV n d s x y e = 0 ∧ roundF n d s x y e = 0 := by
  unfold roundE roundV roundF; rw [h]; exact ⟨rfl, rfl, rfl⟩
theorem round_yes {n d : Int} (h : okR n d = true) (s : Bool) (x y : Nat) (e : Int) : roundE n d = 0 ∧ roundV n d s x y e = rndV n d s x y e ∧ roundF n d s x y e = rndF n d s x y e := by
  unfold roundE roundV roundF; rw [h]; exact ⟨rfl, rfl, rfl⟩
theorem len4 {c : Nat} (h : c < 2 ^ 256) : (limbs c).length ≤ 4 := len_le_of (k := 4) h
theorem low_lt {x y : Nat} {L : Int} (hL : lowS x y = L) (h : cmpI (x * 2 ^ (-((blen x : Int) - (blen y : Int))).toNat) (y * 2 ^ ((blen x : Int) - (blen y : Int)).toNat) < 0) : (blen x : Int) - (blen y : Int) - 1 = L := by
  rw [← hL]; unfold lowS; rw [if_pos (cmpI_neg.1 h)]
theorem low_ge {x y : Nat} {L : Int} (hL : lowS x y = L) (h : 0 ≤ cmpI (x * 2 ^ (-((blen x : Int) - (blen y : Int))).toNat) (y * 2 ^ ((blen x : Int) - (blen y : Int)).toNat)) : (blen x : Int) - (blen y : Int) = L := by
  rw [← hL]; unfold lowS; rw [if_neg (fun h2 => by have := cmpI_neg.2 h2; omega)]
theorem rnd_zero {n d : Int} {s : Bool} {x y : Nat} {e : Int} (hx : x = 0) : rndV n d s x y e = packS n 1 s false 0 (2 - fe n - fp n) ∧ rndF n d s x y e = 0 := by
  unfold rndV rndF; rw [if_pos hx, if_pos hx]; exact ⟨rfl, rfl⟩
theorem wk40 (i : Nat) : w4 0 i = 0 := by unfold w4; simp
end Go.AM.LN
set_option maxRecDepth 20000
namespace Go.AM.LN
open Go
theorem or_add {X Y k : Nat} (h : X < 2 ^ k) : X ||| Y * 2 ^ k = X + Y * 2 ^ k := by
  rw [Nat.or_comm, Nat.add_comm, ← Nat.shiftLeft_eq, ← Nat.shiftLeft_add_eq_or_of_lt h]
def packN (n cl : Int) (si : Bool) (C : Nat) : Nat := C % 2 ^ (fp n - 1).toNat + if cl = 3 ∧ si = false then 2 ^ (fp n - 2).toNat else 0
theorem eS_le {n cl : Int} {si : Bool} {C : Nat} {ex : Int} (hn : 1 ≤ n ∧ n ≤ 6) (hd : isD n cl si C ex) : (eS cl n C ex).toNat ≤ 2 ^ (fx n).toNat - 1 := by
  have F := bfmt hn
  have hee : (2 : Int) ^ (fx n).toNat = ((2 ^ (fx n).toNat : Nat) : Int) := by simp
  have F1 := F.ee
  have F2 := F.e15
  rw [hee] at F1
  unfold eS
  rcases hd with ⟨rfl, rfl, h1, h2, h3⟩ | ⟨rfl, rfl, h1, h2⟩ | ⟨rfl, h1, h2, h3⟩
  · rw [if_pos rfl]
    split <;> omega
  · rw [if_neg (by omega)]; rw [hee]; omega
  · rw [if_neg (by omega)]; rw [hee]; omega
theorem packN_lt {n cl : Int} {si : Bool} {C : Nat} {ex : Int} (hn : 1 ≤ n ∧ n ≤ 6) (hd : isD n cl si C ex) : packN n cl si C < 2 ^ (fp n - 1).toNat ∧ packF n cl si C = packN n cl si C := by
  have F := bfmt hn
  have p8 := F.p8
  have p241 := F.p241
  have hl := F.l
  have h0 : C % 2 ^ (fp n - 1).toNat < 2 ^ (fp n - 1).toNat := Nat.mod_lt _ (Nat.two_pow_pos _)
  have e1 : 2 ^ (fp n - 1).toNat = 2 * 2 ^ (fp n - 2).toNat := by
    rw [show (fp n - 1).toNat = (fp n - 2).toNat + 1 by omega, Nat.pow_succ, Nat.mul_comm]
  unfold packN packF
  by_cases h : cl = 3 ∧ si = false
  · rw [if_pos h, if_pos h]
    have hC : C < 2 ^ (fp n - 2).toNat := by
      rcases hd with ⟨h1, _⟩ | ⟨h1, _⟩ | ⟨_, _, h2, _⟩
      · omega
      · omega
      · exact blen_lt.1 (by omega)
    have h256 : 2 ^ (fp n - 2).toNat < 2 ^ 256 := Nat.pow_lt_pow_right (by omega) (by omega)
    rw [Nat.mod_eq_of_lt (by omega), Nat.one_mul, Nat.mod_eq_of_lt h256]
    refine ⟨by omega, ?_⟩
    have := or_add (Y := 1) hC
    rw [Nat.one_mul] at this
    exact this
  · rw [if_neg h, if_neg h]
    exact ⟨h0, rfl⟩
theorem packS_sum {n cl : Int} {sg si : Bool} {C : Nat} {ex : Int} (hn : 1 ≤ n ∧ n ≤ 6) (hd : isD n cl si C ex) :
    packS n cl sg si C ex = packN n cl si C + (eS cl n C ex).toNat * 2 ^ (fp n - 1).toNat + (if sg then 2 ^ (fp n - 1 + fx n).toNat else 0) ∧ packN n cl si C + (eS cl n C ex).toNat * 2 ^ (fp n - 1).toNat < 2 ^ (fp n - 1 + fx n).toNat ∧ 2 ^ (fp n - 1 + fx n).toNat + 2 ^ (fp n - 1 + fx n).toNat ≤ 2 ^ 256 := by
  have F := bfmt hn
  have p8 := F.p8
  have p241 := F.p241
  have x5 := F.x5
  have x15 := F.x15
  have hw := F.w
  obtain ⟨N1, N2⟩ := packN_lt hn hd
  have hE := eS_le hn hd
  have hB : packB n cl si C ex = packN n cl si C ||| ((eS cl n C ex).toNat * 2 ^ (fp n - 1).toNat % 2 ^ 256) := by unfold packB; rw [N2]
  generalize (eS cl n C ex).toNat = E at *
  generalize packN n cl si C = P at *
  have hw1 : fp n - 1 + fx n = fw n - 1 := by omega
  have hpx : 2 ^ (fp n - 1 + fx n).toNat = 2 ^ (fp n - 1).toNat * 2 ^ (fx n).toNat := by rw [← Nat.pow_add]; congr 1; omega
  have hsm : P + E * 2 ^ (fp n - 1).toNat < 2 ^ (fp n - 1 + fx n).toNat := by
    rw [hpx]
    have h1 : (E + 1) * 2 ^ (fp n - 1).toNat ≤ 2 ^ (fx n).toNat * 2 ^ (fp n - 1).toNat := Nat.mul_le_mul_right _ (by have := Nat.two_pow_pos (fx n).toNat; omega)
    rw [Nat.add_mul, Nat.one_mul] at h1
    rw [Nat.mul_comm (2 ^ (fp n - 1).toNat)]
    omega
  have h255 : 2 ^ (fp n - 1 + fx n).toNat ≤ 2 ^ 255 := Nat.pow_le_pow_right (by omega) (by omega)
  have h256 : (2 : Nat) ^ 255 + 2 ^ 255 = 2 ^ 256 := by decide
  have h255p : (0 : Nat) < 2 ^ 255 := Nat.two_pow_pos _
  generalize hM : (2 : Nat) ^ 256 = M at *
  generalize (2 : Nat) ^ 255 = M2 at *
  have hor := or_add (Y := E) N1
  have hB2 : packB n cl si C ex = P + E * 2 ^ (fp n - 1).toNat := by
    rw [hB, Nat.mod_eq_of_lt (by omega)]; exact hor
  refine ⟨?_, hsm, by omega⟩
  unfold packS
  rw [hB2, ← hw1, hM]
  cases sg
  · rfl
  · rw [if_pos rfl, if_pos rfl, Nat.one_mul, Nat.mod_eq_of_lt (by omega)]
    have h := or_add (Y := 1) hsm
    rw [Nat.one_mul] at h
    exact h
theorem len_valpow {a : List Int} (la : lim a) (k : Nat) : (limbs (val a * 2 ^ k)).length ≤ a.length + k / 64 + 1 := by
  refine len_le_of (Nat.lt_of_lt_of_le (m := 2 ^ (64 * a.length) * 2 ^ k) (Nat.mul_lt_mul_of_pos_right (val_lt la) (Nat.two_pow_pos _)) ?_)
  rw [← Nat.pow_add]
  exact Nat.pow_le_pow_right (by omega) (by omega)
theorem mod_sub {X P : Nat} : X / P * P ≤ X ∧ X - X / P * P = X % P := by
  have h := Nat.div_add_mod X P
  rw [Nat.mul_comm] at h
  omega
theorem packS_c1d {n : Int} {sg : Bool} {C : Nat} {ex : Int} (hn : 1 ≤ n ∧ n ≤ 6) (hd : isD n 1 false C ex) (h : (blen C : Int) < fp n) : packS n 1 sg false C ex = C + (if sg then 2 ^ (fp n - 1 + fx n).toNat else 0) := by
  have F := bfmt hn
  have p8 := F.p8
  rw [(packS_sum hn hd).1]
  have e1 : eS 1 n C ex = 0 := by unfold eS; rw [if_pos rfl, if_neg (by omega)]
  have e2 : packN n 1 false C = C := by
    unfold packN
    rw [if_neg (by omega), Nat.add_zero, Nat.mod_eq_of_lt]
    exact blen_lt.1 (by omega)
  rw [e1, e2]; simp
theorem packS_c1n {n : Int} {sg : Bool} {C : Nat} {ex : Int} (hn : 1 ≤ n ∧ n ≤ 6) (hd : isD n 1 false C ex) (h : (blen C : Int) = fp n) : packS n 1 sg false C ex = C % 2 ^ (fp n - 1).toNat + (ex - (2 - fe n - fp n) + 1).toNat * 2 ^ (fp n - 1).toNat + (if sg then 2 ^ (fp n - 1 + fx n).toNat else 0) := by
  rw [(packS_sum hn hd).1]
  have e1 : eS 1 n C ex = ex - (2 - fe n - fp n) + 1 := by unfold eS; rw [if_pos rfl, if_pos h]
  have e2 : packN n 1 false C = C % 2 ^ (fp n - 1).toNat := by
    unfold packN
    rw [if_neg (by omega), Nat.add_zero]
  rw [e1, e2]
theorem eS_hi {n cl : Int} {C : Nat} {ex : Int} (h : cl ≠ 1) : (eS cl n C ex).toNat = 2 ^ (fx n).toNat - 1 := by
  unfold eS
  rw [if_neg h]
  have hee : (2 : Int) ^ (fx n).toNat = ((2 ^ (fx n).toNat : Nat) : Int) := by simp
  rw [hee]; omega
theorem packS_c2 {n : Int} {sg : Bool} {C : Nat} {ex : Int} (hn : 1 ≤ n ∧ n ≤ 6) (hd : isD n 2 false C ex) : packS n 2 sg false C ex = (2 ^ (fx n).toNat - 1) * 2 ^ (fp n - 1).toNat + (if sg then 2 ^ (fp n - 1 + fx n).toNat else 0) := by
  rw [(packS_sum hn hd).1, eS_hi (by omega)]
  have h0 : C = 0 := by
    rcases hd with ⟨h1, _⟩ | ⟨_, _, h2, _⟩ | ⟨h1, _⟩
    · omega
    · exact blen_zero.1 h2
    · omega
  have e2 : packN n 2 false C = 0 := by
    unfold packN
    rw [if_neg (by omega), h0, Nat.zero_mod]
  rw [e2]; simp
theorem packS_c3 {n : Int} {sg si : Bool} {C : Nat} {ex : Int} (hn : 1 ≤ n ∧ n ≤ 6) (hd : isD n 3 si C ex) : packS n 3 sg si C ex = C + (if si = false then 2 ^ (fp n - 2).toNat else 0) + (2 ^ (fx n).toNat - 1) * 2 ^ (fp n - 1).toNat + (if sg then 2 ^ (fp n - 1 + fx n).toNat else 0) ∧ C < 2 ^ (fp n - 1).toNat := by
  rw [(packS_sum hn hd).1, eS_hi (by omega)]
  have F := bfmt hn
  have p8 := F.p8
  have hl := F.l
  have hC : C < 2 ^ (fp n - 1).toNat := by
    rcases hd with ⟨h1, _⟩ | ⟨h1, _⟩ | ⟨_, _, h2, _⟩
    · omega
    · omega
    · exact blen_lt.1 (by omega)
  have e2 : packN n 3 si C = C + (if si = false then 2 ^ (fp n - 2).toNat else 0) := by
    unfold packN
    rw [Nat.mod_eq_of_lt hC]
    simp
  rw [e2]
  exact ⟨rfl, hC⟩
theorem packS_lt {n cl : Int} {sg si : Bool} {C : Nat} {ex : Int} (hn : 1 ≤ n ∧ n ≤ 6) (hd : isD n cl si C ex) : packS n cl sg si C ex < 2 ^ 256 := by
  obtain ⟨h1, h2, h3⟩ := packS_sum (sg := sg) hn hd
  rw [h1]
  split <;> omega
theorem cmp_half {r y : Nat} (h : r ≤ y) : cmpI (r * 2) y = cmpI r (y - r) := by
  rcases Nat.lt_trichotomy (r * 2) y with h1 | h1 | h1
  · rw [cmpI_lt h1, cmpI_lt (show r < y - r by omega)]
  · rw [cmpI_eq h1, cmpI_eq (show r = y - r by omega)]
  · rw [cmpI_gt h1, cmpI_gt (show y - r < r by omega)]
theorem cmpI_mul {x y m : Nat} (hm : 0 < m) : cmpI (x * m) (y * m) = cmpI x y := by
  unfold cmpI
  by_cases h1 : x < y
  · rw [if_pos h1, if_pos (Nat.mul_lt_mul_of_pos_right h1 hm)]
  · rw [if_neg h1, if_neg (by have := Nat.mul_le_mul_right m (Nat.le_of_not_lt h1); omega)]
    by_cases h2 : x = y
    · subst h2; rw [if_pos rfl, if_pos rfl]
    · rw [if_neg h2, if_neg (fun h => h2 (Nat.eq_of_mul_eq_mul_right hm h))]
theorem divS_mul {d : Int} {s : Bool} {x y m : Nat} (hm : 0 < m) : divS d s (x * m) (y * m) = divS d s x y := by
  unfold divS
  rw [Nat.mul_div_mul_right _ _ hm, Nat.mul_mod_mul_right, ← Nat.sub_mul, cmpI_mul hm]
  by_cases h : x % y = 0
  · rw [if_pos h, if_pos (by rw [h, Nat.zero_mul])]
  · rw [if_neg h, if_neg (fun h2 => h (by rcases Nat.mul_eq_zero.1 h2 with h3 | h3 <;> omega))]
theorem shift_two (E k : Int) : ∃ m : Nat, E.toNat + k.toNat = (E + k).toNat + m ∧ (-E).toNat + (-k).toNat = (-(E + k)).toNat + m := by
  refine ⟨E.toNat + k.toNat - (E + k).toNat, ?_, ?_⟩ <;> omega
theorem divS_two {d : Int} {s : Bool} {x y : Nat} {E k : Int} : divS d s (x * 2 ^ E.toNat * 2 ^ k.toNat) (y * 2 ^ (-E).toNat * 2 ^ (-k).toNat) = divS d s (x * 2 ^ (E + k).toNat) (y * 2 ^ (-(E + k)).toNat) := by
  obtain ⟨m, h1, h2⟩ := shift_two E k
  rw [Nat.mul_assoc, ← Nat.pow_add, h1, Nat.mul_assoc, ← Nat.pow_add, h2, Nat.pow_add, Nat.pow_add, ← Nat.mul_assoc, ← Nat.mul_assoc]
  exact divS_mul (Nat.two_pow_pos m)
def lowR (x y : Nat) : Int :=
  if x * 2 ^ (min (max (-((blen x : Int) - (blen y : Int))) (-200000)) 200000).toNat < y * 2 ^ (-(min (max (-((blen x : Int) - (blen y : Int))) (-200000)) 200000)).toNat then (blen x : Int) - (blen y : Int) - 1 else (blen x : Int) - (blen y : Int)
theorem lowR_bound (x y : Nat) : (blen x : Int) - (blen y : Int) - 1 ≤ lowR x y ∧ lowR x y ≤ (blen x : Int) - (blen y : Int) := by
  unfold lowR; split <;> omega
theorem lowR_eq {x y : Nat} (h : -200000 ≤ (blen x : Int) - (blen y : Int) ∧ (blen x : Int) - (blen y : Int) ≤ 200000) : lowR x y = lowS x y := by
  unfold lowR lowS
  rw [show min (max (-((blen x : Int) - (blen y : Int))) (-200000)) 200000 = -((blen x : Int) - (blen y : Int)) by omega]
  rw [show -(-((blen x : Int) - (blen y : Int))) = (blen x : Int) - (blen y : Int) by omega]
theorem lowS_shift {x y : Nat} (hx : 0 < x) (hy : 0 < y) (E : Int) : lowS (x * 2 ^ E.toNat) (y * 2 ^ (-E).toNat) = lowS x y + E := by
  unfold lowS
  rw [blen_mul (by omega), blen_mul (by omega)]
  have e : ((blen x + E.toNat : Nat) : Int) - ((blen y + (-E).toNat : Nat) : Int) = (blen x : Int) - (blen y : Int) + E := by omega
  rw [e]
  obtain ⟨m, h1, h2⟩ := shift_two E (-((blen x : Int) - (blen y : Int) + E))
  rw [show E + -((blen x : Int) - (blen y : Int) + E) = -((blen x : Int) - (blen y : Int)) by omega] at h1 h2
  rw [show -(-((blen x : Int) - (blen y : Int) + E)) = (blen x : Int) - (blen y : Int) + E by omega] at h2
  rw [show -(-((blen x : Int) - (blen y : Int))) = (blen x : Int) - (blen y : Int) by omega] at h2
  rw [Nat.mul_assoc, ← Nat.pow_add, h1, Nat.mul_assoc, ← Nat.pow_add, h2, Nat.pow_add, Nat.pow_add, ← Nat.mul_assoc, ← Nat.mul_assoc]
  by_cases h : x * 2 ^ (-((blen x : Int) - (blen y : Int))).toNat < y * 2 ^ ((blen x : Int) - (blen y : Int)).toNat
  · rw [if_pos h, if_pos (Nat.mul_lt_mul_of_pos_right h (Nat.two_pow_pos m))]; omega
  · rw [if_neg h, if_neg (by have := Nat.mul_le_mul_right (2 ^ m) (Nat.le_of_not_lt h); omega)]
def scE (c e : Int) : Int := min (max e (-(if c = 10 then 60000 else 200000))) (if c = 10 then 60000 else 200000)
theorem scE2 (e : Int) : scE 2 e = min (max e (-200000)) 200000 := rfl
theorem scE10 (e : Int) : scE 10 e = min (max e (-60000)) 60000 := rfl
theorem scE_b (c e : Int) : -200000 ≤ scE c e ∧ scE c e ≤ 200000 := by unfold scE; split <;> omega
theorem blen_val {a : List Int} (la : lim a) : blen (val a) ≤ 64 * a.length := blen_lt.2 (lt_pow_of_len la (Nat.le_refl _))
theorem lowR_lt {x y : Nat} (h : cmpI (x * 2 ^ (scE 2 (-((blen x : Int) - blen y))).toNat) (y * 2 ^ (-scE 2 (-((blen x : Int) - blen y))).toNat) < 0) : lowR x y = (blen x : Int) - blen y - 1 := by
  unfold lowR; rw [← scE2]; exact if_pos (cmpI_neg.1 h)
theorem lowR_ge {x y : Nat} (h : 0 ≤ cmpI (x * 2 ^ (scE 2 (-((blen x : Int) - blen y))).toNat) (y * 2 ^ (-scE 2 (-((blen x : Int) - blen y))).toNat)) : lowR x y = (blen x : Int) - blen y := by
  unfold lowR; rw [← scE2]; exact if_neg (fun h2 => by rw [cmpI_lt h2] at h; omega)
theorem ov_t {n d : Int} {s : Bool} (h : infS d s = true) : ovV n d s = packS n 2 s false 0 0 := if_pos h
theorem ov_f {n d : Int} {s : Bool} (h : infS d s = false) : ovV n d s = packS n 1 s false (2 ^ (fp n).toNat - 1) (fe n + 1 - fp n) := if_neg (by rw [h]; exact Bool.false_ne_true)
theorem pow_zero_of {c : Nat} {k : Int} (h : k ≤ 0) : c ^ k.toNat = 1 := by rw [show k.toNat = 0 by omega, Nat.pow_zero]
theorem odd_val {a : List Int} (la : lim a) : val a % 2 = (a.getD 0 0).toNat % 2 := mod_word (s := 1) la (by omega)
theorem odd_rem {a : List Int} (la : lim a) : ((a.getD 0 0).tmod 2 == 1) = (val a % 2 == 1) := by
  have h := Mg la (i := 0)
  rw [odd_val la, Int.tmod_eq_emod_of_nonneg h.1, Bool.eq_iff_iff]
  simp only [beq_iff_eq]
  omega
theorem far_inf {d : Int} {s : Bool} (h : 0 ≤ d ∧ d ≤ 4) : (if d = 2 then false else if d = 3 then !s else if d = 4 then s else true) = infS d s := by
  have hd : d = 0 ∨ d = 1 ∨ d = 2 ∨ d = 3 ∨ d = 4 := by omega
  rcases hd with rfl | rfl | rfl | rfl | rfl <;> rfl
theorem len_b {x k : Nat} (h : blen x ≤ k) : (limbs x).length ≤ (k + 63) / 64 := by rw [len_limbs]; omega
theorem blen_pow_le {x k : Nat} : blen (x * 2 ^ k) ≤ blen x + k := by
  by_cases h : x = 0
  · subst h; rw [Nat.zero_mul]; exact Nat.le_trans (Nat.le_of_eq rfl) (Nat.zero_le _)
  · rw [blen_mul h]; exact Nat.le_refl _
theorem blen_divS {d : Int} {s : Bool} {x y : Nat} : blen (divS d s x y).1 ≤ blen x + 1 := by
  refine blen_lt.2 ?_
  have h1 := (@divS_le d s x y).2
  have h2 : x / y ≤ x := Nat.div_le_self _ _
  have h3 : x < 2 ^ blen x := blen_lt.1 (Nat.le_refl _)
  have h4 := Nat.two_pow_pos (blen x)
  rw [Nat.pow_succ]
  omega
theorem ref_way {n d : Int} {s : Bool} {x y : Nat} {e : Int} (hn : 1 ≤ n ∧ n ≤ 6) (hx : 0 < x) (hy : 0 < y) (bx : blen x ≤ 57600) (b_y : blen y ≤ 57600) {E L Q K : Int}
    (hE : E = scE 2 e) (hL : L = lowR (x * 2 ^ E.toNat) (y * 2 ^ (-E).toNat)) (hQ : Q = max (2 - fe n - fp n) (L - fp n + 1)) (hK : K = scE 2 (-Q)) :
    (fe n + 1 - fp n < Q ∧ Q ≤ 500000 ∧ fe n + 1 - fp n < rq n x y e) ∨
    (Q = rq n x y e ∧ -20000 ≤ Q ∧ Q ≤ 20000 ∧ divS d s (x * 2 ^ E.toNat * 2 ^ K.toNat) (y * 2 ^ (-E).toNat * 2 ^ (-K).toNat) = rdiv n d s x y e ∧ (L < 2 - fe n - fp n + fp n - 1 ↔ rlow x y e < 2 - fe n - fp n + fp n - 1) ∧
      ((rq n x y e = rlow x y e - fp n + 1 ∧ 2 ^ (fp n - 1).toNat ≤ (rdiv n d s x y e).1 ∧ (rdiv n d s x y e).1 ≤ 2 ^ (fp n).toNat) ∨ (rq n x y e = 2 - fe n - fp n ∧ (rdiv n d s x y e).1 ≤ 2 ^ (fp n - 1).toNat))) := by
  obtain ⟨F1, F2, F3, F4, F5, F6, F7, F8, F9, F10, F11⟩ := bfmt hn
  rw [scE2] at hE hK
  obtain ⟨bl1, bl2⟩ := lowS_bound hx hy
  obtain ⟨br1, br2⟩ := lowR_bound (x * 2 ^ E.toNat) (y * 2 ^ (-E).toNat)
  have hx1 : 1 ≤ blen x := by have := @blen_zero x; omega
  have hy1 : 1 ≤ blen y := by have := @blen_zero y; omega
  have hs := lowS_shift hx hy E
  have he := @lowR_eq (x * 2 ^ E.toNat) (y * 2 ^ (-E).toNat)
  rw [blen_mul (by omega), blen_mul (by omega)] at he br1 br2
  rw [hs] at he
  rw [← hL] at he br1 br2
  have hrl : rlow x y e = lowS x y + e := rfl
  have hrlE : rlow x y E = lowS x y + E := rfl
  have rqe := @rq_b n x y e
  have rqE := @rq_b n x y E
  generalize lowS x y = l at *
  have hLE : (-200000 ≤ (blen x : Int) - blen y + E ∧ (blen x : Int) - blen y + E ≤ 200000) → L = l + E := fun h => he (by omega)
  clear he hs
  have hway : (fe n + 1 - fp n + fp n ≤ l + e) ∨ (l + e < 2 - fe n - fp n - 1) ∨ (2 - fe n - fp n - 1 ≤ l + e ∧ l + e < fe n + 1 - fp n + fp n) := by omega
  rcases hway with hA | hB | ⟨hC1, hC2⟩
  · left
    refine ⟨?_, by omega, by omega⟩
    by_cases h2 : (blen x : Int) - blen y + E ≤ 200000
    · have := hLE (by omega)
      omega
    · omega
  · right
    have hT := rdiv_tiny (n := n) (d := d) (s := s) (e := e) hx hy (by omega) (by omega)
    have hLs : L < 2 - fe n - fp n - 1 := by
      by_cases h2 : -200000 ≤ (blen x : Int) - blen y + E
      · have := hLE (by omega)
        omega
      · omega
    have hQ' : Q = 2 - fe n - fp n := by omega
    have hK' : K = -Q := by omega
    have hT' := rdiv_tiny (n := n) (d := d) (s := s) (e := E) hx hy (by omega) (by omega)
    refine ⟨by omega, by omega, by omega, ?_, by omega, .inr ⟨hT.1, ?_⟩⟩
    · rw [divS_two, hT.2, ← hT'.2]
      unfold rdiv
      rw [hT'.1, hK', hQ', ← Int.sub_eq_add_neg]
    · rw [hT.2]
      have h1 := (@divS_le d s 1 4).2
      exact Nat.le_trans h1 Nat.one_le_two_pow
  · right
    have hEe : E = e := by omega
    subst hEe
    have hLl := hLE (by omega)
    clear hLE rqE hrlE hE
    have hQ' : Q = rq n x y E := by rw [hQ]; unfold rq; rw [hrl, hLl]
    have hQ1 : -20000 ≤ Q ∧ Q ≤ 20000 := by omega
    have hK' : K = -Q := by omega
    refine ⟨hQ', hQ1.1, hQ1.2, ?_, by omega, rdiv_ok hn hx hy (by omega)⟩
    rw [divS_two]
    unfold rdiv
    rw [hK', ← hQ', ← Int.sub_eq_add_neg]
end Go.AM.LN
set_option maxRecDepth 20000
namespace Go.AM.LN
open Go
def bs (l : List UInt8) : ByteArray := ⟨l.toArray⟩
theorem bs_app (l r : List UInt8) : bs l ++ bs r = bs (l ++ r) := by
  apply ByteArray.ext
  simp [bs]
theorem Bz (l : List UInt8) : (bs l).size = l.length := by simp [bs, ByteArray.size]
theorem Bi (l : List UInt8) : (bs l).toList = l := by
  rw [ByteArray.toList_eq]; simp [bs]
theorem bs_lit (a : Array UInt8) : (⟨a⟩ : ByteArray) = bs a.toList := by simp [bs]
theorem bs_beq (l r : List UInt8) : ((bs l).toList == (bs r).toList) = (l == r) := by rw [Bi, Bi]
theorem bt_bs (l : List UInt8) (i : Int) : AM.bt (bs l) i = ((l.getD i.toNat 0).toNat : Int) := by simp [AM.bt, bs]
theorem Be (l : List UInt8) (i j : Nat) : (bs l).extract i j = bs ((l.drop i).take (j - i)) := by
  apply ByteArray.ext
  simp [bs, List.take_drop]
open Go.Lib
theorem decD_big {u : Nat} (h : 10 ≤ u) : decDigits u = decDigits (u / 10) ++ [UInt8.ofNat (48 + u % 10)] := by
  rw [decDigits, dif_neg (by omega)]
theorem decD_small {u : Nat} (h : u < 10) : decDigits u = [UInt8.ofNat (48 + u)] := by rw [decDigits, dif_pos h]
end Go.AM.LN
set_option maxRecDepth 20000
namespace Go.AM.LN
open Go Go.Lib
theorem Bt (s : ByteArray) : s = bs s.toList := by rw [ByteArray.toList_eq]; cases s; simp [bs]
theorem Bd (l : List UInt8) : (bs l).data.toList = l := by simp [bs]
def nanT (cl : Int) (sg si : Bool) (D : List UInt8) : List UInt8 :=
  (if sg then [45] else []) ++ if cl = 2 then [105, 110, 102] else ((if si then [115] else []) ++ [110, 97, 110] ++ if D = [] then [] else 40 :: (D ++ [41]))
theorem dropW_len (p : UInt8 → Bool) : ∀ l : List UInt8, (l.dropWhile p).length ≤ l.length
  | [] => Nat.le_refl _
  | x :: r => by
    have := dropW_len p r
    rw [List.dropWhile_cons]
    split
    · rw [List.length_cons]; omega
    · exact Nat.le_refl _

def isDg (c : UInt8) : Bool := decide (48 ≤ c.toNat ∧ c.toNat ≤ 57)
theorem isDg_t {c : UInt8} (h : isDg c = true) : 48 ≤ c.toNat ∧ c.toNat ≤ 57 := of_decide_eq_true h
def gDig (l : List UInt8) : List UInt8 := l.takeWhile isDg
def gOff (l : List UInt8) : List UInt8 := l.dropWhile isDg
theorem gDig_off (l : List UInt8) : gDig l ++ gOff l = l := List.takeWhile_append_dropWhile
theorem gDig_all (l : List UInt8) : (gDig l).all isDg = true := List.all_takeWhile
theorem gOff_len (l : List UInt8) : (gDig l).length + (gOff l).length = l.length := by
  rw [← List.length_append, gDig_off]
theorem gRun (l : List UInt8) : l.take (l.length - (gOff l).length) = gDig l := by
  have h := gOff_len l
  conv => lhs; arg 2; rw [← gDig_off l]
  rw [List.take_append_of_le_length (by omega), List.take_of_length_le (by omega)]
theorem gDig_id {l : List UInt8} (h : l.all isDg = true) : gDig l = l := by
  unfold gDig
  induction l with
  | nil => rfl
  | cons c r ih =>
    simp only [List.all_cons, Bool.and_eq_true] at h
    rw [List.takeWhile_cons, if_pos h.1, ih h.2]
theorem gOff_id {l : List UInt8} (h : l.all isDg = true) : gOff l = [] := by
  have h1 := gOff_len l
  rw [gDig_id h] at h1
  exact List.length_eq_zero_iff.1 (by omega)
theorem gDig_app {l r : List UInt8} (h : l.all isDg = true) (hr : ∀ c, r.head? = some c → isDg c = false) : gDig (l ++ r) = l ∧ gOff (l ++ r) = r := by
  unfold gDig gOff
  induction l with
  | nil =>
    cases r with
    | nil => exact ⟨rfl, rfl⟩
    | cons c r => have := hr c rfl; simp [this]
  | cons c l ih =>
    simp only [List.all_cons, Bool.and_eq_true] at h
    have := ih h.2
    simp [h.1, this.1, this.2]
theorem gOff_nil {l : List UInt8} (h : gOff l = []) : l.all isDg = true := by
  have := gDig_off l
  rw [h, List.append_nil] at this
  rw [← this]; exact gDig_all l
def cs10 : List UInt8 := [48, 49, 50, 51, 52, 53, 54, 55, 56, 57]
theorem cs10_eq (c : UInt8) : cs10.contains c = isDg c := by
  have h : ∀ n : Fin 256, cs10.contains (UInt8.ofNat n.val) = isDg (UInt8.ofNat n.val) := by decide
  have := h ⟨c.toNat, c.toNat_lt⟩
  simpa using this
theorem trim10 (l : List UInt8) : trimLeftS l cs10 = gOff l := by
  unfold trimLeftS gOff
  congr 1
  funext c
  exact cs10_eq c
def dv (l : List UInt8) : Nat := l.foldl (fun n c => 10 * n + (c.toNat - 48)) 0
theorem dv_from (r : List UInt8) : ∀ n, r.foldl (fun n c => 10 * n + (c.toNat - 48)) n = n * 10 ^ r.length + dv r := by
  unfold dv
  induction r with
  | nil => intro n; simp
  | cons c r ih =>
    intro n
    rw [List.foldl_cons, List.foldl_cons, ih, ih (10 * 0 + (c.toNat - 48)), List.length_cons, Nat.pow_succ]
    grind
theorem dv_app (l r : List UInt8) : dv (l ++ r) = dv l * 10 ^ r.length + dv r := by
  unfold dv
  rw [List.foldl_append]
  exact dv_from r _
theorem dv_cons (c : UInt8) (r : List UInt8) : dv (c :: r) = (c.toNat - 48) * 10 ^ r.length + dv r := by
  have := dv_app [c] r
  simpa [dv] using this
theorem dv_snoc (l : List UInt8) (c : UInt8) : dv (l ++ [c]) = 10 * dv l + (c.toNat - 48) := by
  unfold dv
  rw [List.foldl_append]; rfl
theorem dv_lt (l : List UInt8) (h : l.all isDg = true) : dv l < 10 ^ l.length := by
  induction l with
  | nil => decide
  | cons c r ih =>
    simp only [List.all_cons, Bool.and_eq_true] at h
    have h1 := isDg_t h.1
    have h2 := ih h.2
    rw [dv_cons, List.length_cons, Nat.pow_succ]
    have : (c.toNat - 48) * 10 ^ r.length ≤ 9 * 10 ^ r.length := Nat.mul_le_mul_right _ (by omega)
    omega
theorem dv_ge {c : UInt8} {r : List UInt8} (h : 48 < c.toNat) : 10 ^ r.length ≤ dv (c :: r) := by
  rw [dv_cons]
  have : 1 * 10 ^ r.length ≤ (c.toNat - 48) * 10 ^ r.length := Nat.mul_le_mul_right _ (by omega)
  omega
def bare (l : List UInt8) : List UInt8 := trimLeftB l 48
theorem bare_cons (c : UInt8) (r : List UInt8) : bare (c :: r) = if c = 48 then bare r else c :: r := by
  unfold bare trimLeftB
  rw [List.dropWhile_cons]
  by_cases h : c = 48
  · simp [h]
  · simp [h]
theorem bare_dv (l : List UInt8) : dv (bare l) = dv l := by
  induction l with
  | nil => rfl
  | cons c r ih =>
    rw [bare_cons]
    split
    · rename_i h; rw [ih, dv_cons, h]; simp
    · rfl
theorem bare_all {l : List UInt8} (h : l.all isDg = true) : (bare l).all isDg = true := by
  induction l with
  | nil => rfl
  | cons c r ih =>
    simp only [List.all_cons, Bool.and_eq_true] at h
    rw [bare_cons]
    split
    · exact ih h.2
    · simp [h.1, h.2]
theorem bare_len (l : List UInt8) : (bare l).length ≤ l.length := dropW_len _ l
theorem bare_head (l : List UInt8) : bare l = [] ∨ ∃ c r, bare l = c :: r ∧ c ≠ 48 := by
  induction l with
  | nil => exact .inl rfl
  | cons c r ih =>
    rw [bare_cons]
    split
    · exact ih
    · exact .inr ⟨c, r, rfl, by assumption⟩
theorem bare_id {l : List UInt8} (h : l.head? ≠ some 48) : bare l = l := by
  cases l with
  | nil => rfl
  | cons c r => rw [bare_cons, if_neg (fun hc => h (by rw [hc]; rfl))]
theorem bare_big {l : List UInt8} (h : l.all isDg = true) (hl : 11 < (bare l).length) : 10 ^ 11 ≤ dv l := by
  have ha := bare_all h
  have hv := bare_dv l
  rcases bare_head l with h0 | ⟨c, r, h0, h1⟩
  · rw [h0] at hl; simp at hl
  · rw [h0] at ha hl hv
    simp only [List.all_cons, Bool.and_eq_true] at ha
    have h2 := isDg_t ha.1
    have h3 : c.toNat ≠ 48 := fun hc => h1 (UInt8.toNat_inj.1 hc)
    have := dv_ge (c := c) (r := r) (by omega)
    rw [← hv]
    refine Nat.le_trans (Nat.pow_le_pow_right (by omega) ?_) this
    simp at hl; omega
theorem parse_dv (M : Nat) (hM : M = 18446744073709551615) : ∀ (l : List UInt8) (a : Nat), l.all isDg = true → a * 10 ^ l.length + dv l ≤ M → parseUintM M a l = .ok (a * 10 ^ l.length + dv l)
  | [], a, _, _ => by simp [parseUintM, dv]
  | c :: r, a, h, hb => by
    simp only [List.all_cons, Bool.and_eq_true] at h
    have h1 := isDg_t h.1
    rw [dv_cons, List.length_cons, Nat.pow_succ] at hb ⊢
    have e : a * (10 ^ r.length * 10) + ((c.toNat - 48) * 10 ^ r.length + dv r) = (a * 10 + (c.toNat - 48)) * 10 ^ r.length + dv r := by grind
    rw [e] at hb ⊢
    have hp : 0 < 10 ^ r.length := Nat.pow_pos (by decide)
    have h2 : (a * 10 + (c.toNat - 48)) * 1 ≤ (a * 10 + (c.toNat - 48)) * 10 ^ r.length := Nat.mul_le_mul_left _ hp
    simp only [parseUintM]
    rw [if_pos h1, if_neg (by omega), if_neg (by omega)]
    exact parse_dv M hM r _ h.2 hb
theorem parse10_dv : ∀ (l : List UInt8) (a : Nat), l.all isDg = true → a * 10 ^ l.length + dv l < 18446744073709551616 → parseUint10 a l = .ok (a * 10 ^ l.length + dv l)
  | [], a, _, _ => by simp [parseUint10, dv]
  | c :: r, a, h, hb => by
    simp only [List.all_cons, Bool.and_eq_true] at h
    have h1 := isDg_t h.1
    rw [dv_cons, List.length_cons, Nat.pow_succ] at hb ⊢
    have e : a * (10 ^ r.length * 10) + ((c.toNat - 48) * 10 ^ r.length + dv r) = (a * 10 + (c.toNat - 48)) * 10 ^ r.length + dv r := by grind
    rw [e] at hb ⊢
    have hp : 0 < 10 ^ r.length := Nat.pow_pos (by decide)
    have h2 : (a * 10 + (c.toNat - 48)) * 1 ≤ (a * 10 + (c.toNat - 48)) * 10 ^ r.length := Nat.mul_le_mul_left _ hp
    simp only [parseUint10]
    rw [if_pos h1, if_neg (by omega), if_neg (by omega)]
    exact parse10_dv r _ h.2 hb
theorem atoi_dv {l : List UInt8} (h : l.all isDg = true) (hl : l.length ≤ 11) : atoiAll (48 :: l) = .ok (dv l : Int) := by
  have h1 := dv_lt l h
  have h2 : 10 ^ l.length ≤ 10 ^ 11 := Nat.pow_le_pow_right (by omega) hl
  have h3 := parse10_dv (48 :: l) 0 (by simp [h]; decide) (by rw [dv_cons]; simp; omega)
  rw [dv_cons] at h3
  have h3' : parseUint10 0 (48 :: l) = .ok (dv l) := by simpa using h3
  have e : parseMag (if (48 : UInt8).toNat = 43 ∨ (48 : UInt8).toNat = 45 then l else 48 :: l) = .ok (dv l) := by
    rw [if_neg (by decide)]; unfold parseMag; rw [if_neg (by simp)]; exact h3'
  unfold atoiAll
  dsimp only
  rw [e]
  dsimp only
  rw [if_neg (by omega), if_neg (by intro hc; exact absurd hc.1 (by decide)), if_neg (by decide)]
def lowB (c : UInt8) : UInt8 := if 65 ≤ c.toNat ∧ c.toNat ≤ 90 then c + 32 else c
def lowF (r : Int) : Int := if 65 ≤ r ∧ r ≤ 90 then r + 32 else r
def asc (l : List UInt8) : Prop := ∀ c ∈ l, c.toNat < 128
theorem lowB_asc {c : UInt8} : (lowB c).toNat < 128 ↔ c.toNat < 128 := by
  unfold lowB
  split
  · rename_i h
    have : (c + 32).toNat = (c.toNat + 32) % 256 := UInt8.toNat_add c 32
    rw [this]; omega
  · exact Iff.rfl
theorem asc_low {l : List UInt8} : asc (l.map lowB) ↔ asc l := by
  unfold asc
  simp [lowB_asc]
theorem decodeL_asc {c : UInt8} {r : List UInt8} (h : c.toNat < 128) : decodeL (c :: r) = (c.toNat, 1) := by
  rw [decodeL_N]
  rcases decodeN_shape (c :: r).length ((c :: r).getD 0 0).toNat ((c :: r).getD 1 0).toNat ((c :: r).getD 2 0).toNat ((c :: r).getD 3 0).toNat with ⟨h1, e⟩ | ⟨h1, _, _, _, e⟩ | ⟨h1, _, _, _, _, _, e⟩ | ⟨h1, _, _, _, _, _, _, e⟩ | e
  · rw [e]; rfl
  · simp at h1; omega
  · simp at h1; omega
  · simp at h1; omega
  · unfold decodeN; rw [if_pos (by simpa using h)]; rfl
theorem decodeL_non {c : UInt8} {r : List UInt8} (h : 128 ≤ c.toNat) : 128 ≤ (decodeL (c :: r)).1 := by
  rw [decodeL_N]
  rcases decodeN_shape (c :: r).length ((c :: r).getD 0 0).toNat ((c :: r).getD 1 0).toNat ((c :: r).getD 2 0).toNat ((c :: r).getD 3 0).toNat with ⟨h1, e⟩ | ⟨h1, _, _, hv, e⟩ | ⟨h1, _, _, _, hv, _, e⟩ | ⟨h1, _, _, _, _, hv, _, e⟩ | e
  · simp at h1; omega
  · rw [e]; exact hv
  · rw [e]; dsimp only; omega
  · rw [e]; dsimp only; omega
  · rw [e]; decide
theorem encode_asc {r : Int} (h : 0 ≤ r ∧ r ≤ 127) : encodeRune r = [UInt8.ofNat r.toNat] := by
  unfold encodeRune
  rw [encodeRuneZ_one h.1 h.2]
  rfl
theorem encode_non {r : Int} (h : 128 ≤ r) : ∃ c ∈ encodeRune r, 128 ≤ c.toNat := by
  have key : ∀ z : Int, 128 ≤ z → z ≤ 255 → 128 ≤ (z.toNat.toUInt8).toNat := fun z h1 h2 => by
    have : (z.toNat.toUInt8).toNat = z.toNat % 256 := by simp
    rw [this]; omega
  unfold encodeRune encodeRuneZ
  rw [if_neg (by omega)]
  split
  · exact ⟨_, by simp; exact .inl rfl, key _ (by omega) (by omega)⟩
  · split
    · exact ⟨_, by simp; exact .inl rfl, key _ (by omega) (by omega)⟩
    · split
      · exact ⟨_, by simp; exact .inl rfl, key _ (by omega) (by omega)⟩
      · exact ⟨239, by decide, by decide⟩
theorem lowF_asc {c : UInt8} (h : c.toNat < 128) : (0 ≤ lowF c.toNat ∧ lowF c.toNat ≤ 127) ∧ UInt8.ofNat (lowF c.toNat).toNat = lowB c := by
  unfold lowF lowB
  by_cases h1 : 65 ≤ c.toNat ∧ c.toNat ≤ 90
  · rw [if_pos (by omega), if_pos h1]
    refine ⟨by omega, ?_⟩
    rw [show ((c.toNat : Int) + 32).toNat = c.toNat + 32 by omega]
    apply UInt8.toNat_inj.1
    rw [UInt8.toNat_add]
    simp
  · rw [if_neg (by omega), if_neg h1]
    refine ⟨by omega, ?_⟩
    simp
theorem mapD_asc : ∀ l : List UInt8, asc l → mapD lowF l = l.map lowB
  | [], _ => rfl
  | c :: r, h => by
    have hc : c.toNat < 128 := h c (by simp)
    have hr : asc r := fun x hx => h x (by simp [hx])
    obtain ⟨h1, h2⟩ := lowF_asc hc
    rw [mapD_step lowF _ (by simp), decodeL_asc hc]
    dsimp only
    rw [if_pos h1.1, encode_asc h1, h2, List.drop_one, List.tail_cons, mapD_asc r hr]
    rfl
theorem mapD_non : ∀ (n : Nat) (l : List UInt8), l.length ≤ n → ¬ asc l → ¬ asc (mapD lowF l)
  | 0, l, h, hn => by
    have : l = [] := List.length_eq_zero_iff.1 (by omega)
    subst this
    exact absurd (fun _ hx => absurd hx (by simp)) hn
  | n + 1, [], h, hn => absurd (fun _ hx => absurd hx (by simp)) hn
  | n + 1, c :: r, h, hn => by
    rw [mapD_step lowF _ (by simp)]
    by_cases hc : c.toNat < 128
    · have hr : ¬ asc r := fun ha => hn (fun x hx => by
        rcases List.mem_cons.1 hx with rfl | hx
        · exact hc
        · exact ha x hx)
      have ih := mapD_non n r (by simp at h; omega) hr
      rw [decodeL_asc hc]
      dsimp only
      rw [List.drop_one, List.tail_cons]
      exact fun ha => ih (fun x hx => ha x (List.mem_append_right _ hx))
    · have hd := decodeL_non (c := c) (r := r) (by omega)
      have hf : lowF ((decodeL (c :: r)).1 : Int) = ((decodeL (c :: r)).1 : Int) := by unfold lowF; rw [if_neg (by omega)]
      rw [hf, if_pos (by omega)]
      obtain ⟨x, hx, h128⟩ := encode_non (r := ((decodeL (c :: r)).1 : Int)) (by omega)
      intro ha
      have := ha x (List.mem_append_left _ hx)
      omega
def wInf : List UInt8 := [105, 110, 102]
def wInfinity : List UInt8 := [105, 110, 102, 105, 110, 105, 116, 121]
def wNan : List UInt8 := [110, 97, 110]
def wSnan : List UInt8 := [115, 110, 97, 110]
def gIn (r : List UInt8) : List UInt8 := (r.drop 1).take (r.length - 2)
def gPar (r : List UInt8) : Bool := hasPrefix r [40] && hasSuffix (r.drop 1) [41] && (!(gIn r).isEmpty && (gIn r).all isDg)
def gWord (m : List UInt8) : Option (Int × Bool × List UInt8) :=
  if m = wInf ∨ m = wInfinity then some (2, false, [])
  else if hasPrefix m wNan = false ∧ hasPrefix m wSnan = false then none
  else
    let r := if hasPrefix m wNan then m.drop 3 else m.drop 4
    if r = [] then some (3, !hasPrefix m wNan, [])
    else if gPar r then some (3, !hasPrefix m wNan, bare (gIn r))
    else none
theorem pre_eq {s p : List UInt8} (h : hasPrefix s p = true) : s = p ++ s.drop p.length := by
  have := List.isPrefixOf_iff_prefix.1 h
  obtain ⟨t, rfl⟩ := this
  simp
theorem suf_eq {s p : List UInt8} (h : hasSuffix s p = true) : s = s.take (s.length - p.length) ++ p := by
  have := List.isSuffixOf_iff_suffix.1 h
  obtain ⟨t, rfl⟩ := this
  simp
theorem asc_app {l r : List UInt8} : asc (l ++ r) ↔ asc l ∧ asc r := by
  unfold asc
  simp only [List.mem_append]
  exact ⟨fun h => ⟨fun c hc => h c (.inl hc), fun c hc => h c (.inr hc)⟩, fun h c hc => hc.elim (h.1 c) (h.2 c)⟩
theorem asc_dg {l : List UInt8} (h : l.all isDg = true) : asc l := fun c hc => by
  have := isDg_t (List.all_eq_true.1 h c hc)
  omega
theorem gPar_eq {r : List UInt8} (h : gPar r = true) : r = 40 :: (gIn r ++ [41]) ∧ gIn r ≠ [] ∧ (gIn r).all isDg = true := by
  unfold gPar at h
  simp only [Bool.and_eq_true, Bool.not_eq_true', List.isEmpty_eq_false_iff] at h
  obtain ⟨⟨h1, h2⟩, h3, h4⟩ := h
  have e1 := pre_eq h1
  have e2 := suf_eq h2
  have e3 : (List.drop 1 r).take ((List.drop 1 r).length - ([41] : List UInt8).length) = gIn r := by
    unfold gIn
    simp only [List.length_drop, List.length_singleton]
    congr 1
  rw [e3] at e2
  refine ⟨?_, h3, h4⟩
  rw [← e2]
  simpa using e1
theorem gWord_asc {m : List UInt8} (h : gWord m ≠ none) : asc m := by
  unfold gWord at h
  split at h
  · rename_i h1
    rcases h1 with rfl | rfl <;> (unfold asc; decide)
  · split at h
    · exact absurd rfl h
    · rename_i h1 h2
      dsimp only at h
      have hr : ∀ r : List UInt8, ((if r = [] then some ((3 : Int), !hasPrefix m wNan, ([] : List UInt8)) else if gPar r then some (3, !hasPrefix m wNan, bare (gIn r)) else none) ≠ none) → asc r := fun r hh => by
        split at hh
        · rename_i h3; rw [h3]; exact fun _ hx => absurd hx (by simp)
        · split at hh
          · rename_i h3
            obtain ⟨e1, e2, e3⟩ := gPar_eq h3
            rw [e1]
            have : asc ([40] ++ (gIn r ++ [41])) := asc_app.2 ⟨by unfold asc; decide, asc_app.2 ⟨asc_dg e3, by unfold asc; decide⟩⟩
            exact this
          · exact absurd rfl hh
      have := hr _ h
      by_cases hn : hasPrefix m wNan = true
      · rw [if_pos hn] at this
        rw [pre_eq hn]
        exact asc_app.2 ⟨by unfold asc; decide, this⟩
      · rw [if_neg hn] at this
        have hs : hasPrefix m wSnan = true := by
          rcases Bool.eq_false_or_eq_true (hasPrefix m wSnan) with h4 | h4
          · exact h4
          · exact absurd ⟨by simpa using hn, h4⟩ h2
        rw [pre_eq hs]
        exact asc_app.2 ⟨by unfold asc; decide, this⟩
theorem word_map (l : List UInt8) : gWord (mapD lowF l) = gWord (l.map lowB) := by
  by_cases h : asc l
  · rw [mapD_asc l h]
  · have h1 : gWord (mapD lowF l) = none := by
      rcases hg : gWord (mapD lowF l) with _ | v
      · rfl
      · exact absurd (gWord_asc (by rw [hg]; simp)) (mapD_non _ l (Nat.le_refl _) h)
    have h2 : gWord (l.map lowB) = none := by
      rcases hg : gWord (l.map lowB) with _ | v
      · rfl
      · exact absurd (asc_low.1 (gWord_asc (by rw [hg]; simp))) h
    rw [h1, h2]
def sgnN (l : List UInt8) : Bool := hasPrefix l [45]
def sgnR (l : List UInt8) : List UInt8 := if hasPrefix l [45] then l.drop 1 else trimPrefix l [43]
theorem sgn_cons (c : UInt8) (r : List UInt8) : sgnN (c :: r) = (c == 45) ∧ sgnR (c :: r) = if c = 45 ∨ c = 43 then r else c :: r := by
  unfold sgnN sgnR trimPrefix hasPrefix
  by_cases h1 : c = 45
  · subst h1; simp [List.isPrefixOf]
  · by_cases h2 : c = 43
    · subst h2; simp [List.isPrefixOf]
    · have e1 : ((45 : UInt8) == c) = false := by simpa using fun h => h1 h.symm
      have e2 : ((43 : UInt8) == c) = false := by simpa using fun h => h2 h.symm
      simp [List.isPrefixOf, h1, h2, e1, e2]
theorem sgnR_len (l : List UInt8) : (sgnR l).length ≤ l.length := by
  cases l with
  | nil => decide
  | cons c r => rw [(sgn_cons c r).2]; split <;> simp
def expOk (l : List UInt8) : Bool := !(sgnR l).isEmpty && (sgnR l).all isDg
def expV (l : List UInt8) : Int := if expOk l then (if sgnN l then -((min (dv (sgnR l)) 2000000000 : Nat) : Int) else ((min (dv (sgnR l)) 2000000000 : Nat) : Int)) else 0
theorem expV_b (l : List UInt8) : -2000000000 ≤ expV l ∧ expV l ≤ 2000000000 := by
  unfold expV
  split
  · split <;> omega
  · omega
structure GP where
  c : Int
  s : Bool
  q : Bool
  d : List UInt8
  x : Int
  e : Int
  deriving DecidableEq
def gBad (e : Int) : GP := ⟨0, false, false, [], 0, e⟩
def gPart (r : List UInt8) : List UInt8 := if hasPrefix r [46] then gDig (r.drop 1) else []
def gRest (r : List UInt8) : List UInt8 := if hasPrefix r [46] then gOff (r.drop 1) else r
def isE (r : List UInt8) : Bool := r.head? == some 101 || r.head? == some 69
def gNum (s : Bool) (m : List UInt8) : GP :=
  if gDig m ++ gPart (gOff m) = [] then gBad 2
  else if gRest (gOff m) = [] then ⟨1, s, false, bare (gDig m ++ gPart (gOff m)), 0 - (gPart (gOff m)).length, 0⟩
  else if isE (gRest (gOff m)) && expOk ((gRest (gOff m)).drop 1) then ⟨1, s, false, bare (gDig m ++ gPart (gOff m)), min (max (expV ((gRest (gOff m)).drop 1) - (gPart (gOff m)).length) (-1000000000)) 1000000000, 0⟩
  else gBad 2
def gCut (l : List UInt8) : GP :=
  if 4000 < l.length then gBad 4
  else match gWord ((sgnR l).map lowB) with
    | some (c, q, d) => ⟨c, sgnN l, q, d, 0, 0⟩
    | none => gNum (sgnN l) (sgnR l)
def gText (c : Int) (s q : Bool) (d : List UInt8) (x : Int) : List UInt8 :=
  if c = 2 ∨ c = 3 then nanT c s q d
  else (if s then [45] else []) ++ ((if d = [] then [48] else d) ++ (if x = 0 then [] else 101 :: itoa x))
def dgOk (d : List UInt8) : Bool := d.all isDg && !(d.head? == some 48)
def gGood (c : Int) (s q : Bool) (d : List UInt8) (x : Int) : Bool :=
  dgOk d && (decide (c = 1) && (!q && decide (-1000000000 ≤ x ∧ x ≤ 1000000000) && decide ((gText c s q d x).length ≤ 4000))
    || decide (c = 2) && (!q && d.isEmpty && decide (x = 0))
    || decide (c = 3) && (decide (x = 0) && decide ((gText c s q d x).length ≤ 4000)))
theorem dgOk_bare {l : List UInt8} (h : l.all isDg = true) : dgOk (bare l) = true := by
  unfold dgOk
  rw [bare_all h, Bool.true_and]
  rcases bare_head l with h0 | ⟨c, r, h0, h1⟩
  · rw [h0]; rfl
  · rw [h0]; simp [h1]
theorem dgOk_id {d : List UInt8} (h : dgOk d = true) : bare d = d ∧ d.all isDg = true := by
  unfold dgOk at h
  simp only [Bool.and_eq_true, Bool.not_eq_true', beq_eq_false_iff_ne, ne_eq] at h
  exact ⟨bare_id h.2, h.1⟩
theorem gPart_all (r : List UInt8) : (gPart r).all isDg = true := by
  unfold gPart
  split
  · exact gDig_all _
  · rfl
theorem gPart_len (r : List UInt8) : (gPart r).length ≤ r.length := by
  unfold gPart
  split
  · have := gOff_len (r.drop 1); rw [List.length_drop] at this; omega
  · simp
theorem gNum_ok {s : Bool} {m : List UInt8} (hm : m.length ≤ 4000) (h : (gNum s m).e = 0) : (gNum s m).c = 1 ∧ (gNum s m).q = false ∧ dgOk (gNum s m).d = true ∧ -1000000000 ≤ (gNum s m).x ∧ (gNum s m).x ≤ 1000000000 := by
  have hd : dgOk (bare (gDig m ++ gPart (gOff m))) = true := dgOk_bare (by rw [List.all_append, gDig_all, gPart_all]; rfl)
  have h1 := gOff_len m
  have h2 := gPart_len (gOff m)
  unfold gNum at h ⊢
  split at h
  · exact absurd h (by decide)
  · rw [if_neg (by assumption)]
    split at h
    · rw [if_pos (by assumption)]
      exact ⟨rfl, rfl, hd, by dsimp only; omega, by dsimp only; omega⟩
    · rw [if_neg (by assumption)]
      split at h
      · rw [if_pos (by assumption)]
        exact ⟨rfl, rfl, hd, by dsimp only; omega, by dsimp only; omega⟩
      · exact absurd h (by decide)
theorem gWord_ok {m : List UInt8} {c : Int} {q : Bool} {d : List UInt8} (h : gWord m = some (c, q, d)) : (c = 2 ∧ q = false ∧ d = []) ∨ (c = 3 ∧ dgOk d = true) := by
  unfold gWord at h
  split at h
  · cases h; exact .inl ⟨rfl, rfl, rfl⟩
  · split at h
    · cases h
    · dsimp only at h
      obtain ⟨r, hr⟩ : ∃ r, (if hasPrefix m wNan = true then m.drop 3 else m.drop 4) = r := ⟨_, rfl⟩
      rw [hr] at h
      by_cases h0 : r = []
      · rw [if_pos h0] at h; cases h; exact .inr ⟨rfl, rfl⟩
      · rw [if_neg h0] at h
        by_cases hp : gPar r = true
        · rw [if_pos hp] at h
          cases h
          exact .inr ⟨rfl, dgOk_bare (gPar_eq hp).2.2⟩
        · rw [if_neg hp] at h; cases h
theorem gCut_ok {l : List UInt8} (h : (gCut l).e = 0) : l.length ≤ 4000 ∧ (((gCut l).c = 1 ∧ (gCut l).q = false ∧ dgOk (gCut l).d = true ∧ -1000000000 ≤ (gCut l).x ∧ (gCut l).x ≤ 1000000000) ∨ ((gCut l).c = 2 ∧ (gCut l).q = false ∧ (gCut l).d = [] ∧ (gCut l).x = 0) ∨ ((gCut l).c = 3 ∧ dgOk (gCut l).d = true ∧ (gCut l).x = 0)) := by
  unfold gCut at h ⊢
  split at h
  · exact absurd h (by decide)
  · rw [if_neg (by assumption)]
    refine ⟨by omega, ?_⟩
    cases hw : gWord ((sgnR l).map lowB) with
    | none =>
      rw [hw] at h
      exact .inl (gNum_ok (Nat.le_trans (sgnR_len l) (by omega)) h)
    | some v =>
      obtain ⟨c, q, d⟩ := v
      rcases gWord_ok hw with ⟨rfl, rfl, rfl⟩ | ⟨rfl, h3⟩
      · exact .inr (.inl ⟨rfl, rfl, rfl, rfl⟩)
      · exact .inr (.inr ⟨rfl, h3, rfl⟩)
theorem ofNat48 {k : Nat} (h : k < 10) : isDg (UInt8.ofNat (48 + k)) = true ∧ (UInt8.ofNat (48 + k)).toNat = 48 + k := by
  have : (UInt8.ofNat (48 + k)).toNat = 48 + k := by simp; omega
  exact ⟨decide_eq_true (by rw [this]; omega), this⟩
theorem decD_ok : ∀ (k n : Nat), n < 10 ^ k → (decDigits n).all isDg = true ∧ dv (decDigits n) = n ∧ decDigits n ≠ []
  | 0, n, h => by
    have : n = 0 := by simpa using h
    subst this
    rw [decD_small (by decide)]
    decide
  | k + 1, n, h => by
    rcases Nat.lt_or_ge n 10 with h1 | h1
    · rw [decD_small h1]
      obtain ⟨a, b⟩ := ofNat48 h1
      refine ⟨by simp only [List.all_cons, List.all_nil, a, Bool.and_true], ?_, by simp⟩
      rw [dv_cons, b]; simp [dv]
    · rw [decD_big h1]
      obtain ⟨i1, i2, i3⟩ := decD_ok k (n / 10) (by rw [Nat.pow_succ] at h; omega)
      obtain ⟨a, b⟩ := ofNat48 (Nat.mod_lt n (show 0 < 10 by decide))
      refine ⟨by rw [List.all_append, i1]; simp only [List.all_cons, List.all_nil, a, Bool.and_true], ?_, by simp⟩
      rw [dv_snoc, i2, b]; omega
theorem lt_pow10 (n : Nat) : n < 10 ^ n := Nat.lt_pow_self (by decide)
theorem decD_all (n : Nat) : (decDigits n).all isDg = true := (decD_ok n n (lt_pow10 n)).1
theorem decD_dv (n : Nat) : dv (decDigits n) = n := (decD_ok n n (lt_pow10 n)).2.1
theorem decD_ne (n : Nat) : decDigits n ≠ [] := (decD_ok n n (lt_pow10 n)).2.2
theorem sgn_dg {l : List UInt8} (h : l.all isDg = true) (r : List UInt8) : l ≠ [] → sgnN (l ++ r) = false ∧ sgnR (l ++ r) = l ++ r := by
  cases l with
  | nil => exact fun h => absurd rfl h
  | cons c t =>
    intro _
    simp only [List.all_cons, Bool.and_eq_true] at h
    have h1 := isDg_t h.1
    have e1 : c ≠ 45 := fun hc => by rw [hc] at h1; exact absurd h1.1 (by decide)
    have e2 : c ≠ 43 := fun hc => by rw [hc] at h1; exact absurd h1.1 (by decide)
    rw [List.cons_append, (sgn_cons c _).1, (sgn_cons c _).2, if_neg (by rintro (h | h); exact e1 h; exact e2 h)]
    exact ⟨by simp [e1], rfl⟩
theorem exp_itoa {x : Int} (h : -2000000000 ≤ x ∧ x ≤ 2000000000) : expOk (itoa x) = true ∧ expV (itoa x) = x := by
  by_cases h0 : x < 0
  · have e : itoa x = 45 :: decDigits x.natAbs := if_pos h0
    have hr : sgnR (itoa x) = decDigits x.natAbs ∧ sgnN (itoa x) = true := by
      rw [e, (sgn_cons _ _).1, (sgn_cons _ _).2]; exact ⟨rfl, rfl⟩
    have ho : expOk (itoa x) = true := by
      unfold expOk
      rw [hr.1, decD_all, Bool.and_true]
      simpa using decD_ne x.natAbs
    refine ⟨ho, ?_⟩
    unfold expV
    rw [if_pos ho, hr.1, hr.2, if_pos rfl, decD_dv]
    omega
  · have e : itoa x = decDigits x.toNat := if_neg h0
    have hs := sgn_dg (decD_all x.toNat) [] (decD_ne _)
    rw [List.append_nil] at hs
    have ho : expOk (itoa x) = true := by
      unfold expOk
      rw [e, hs.2, decD_all, Bool.and_true]
      simpa using decD_ne x.toNat
    refine ⟨ho, ?_⟩
    unfold expV
    rw [if_pos ho, e, hs.1, hs.2, decD_dv, if_neg (by decide)]
    omega
theorem gWord_no {m : List UInt8} {c : UInt8} {r : List UInt8} (h : m = c :: r) (hc : isDg c = true) : gWord m = none := by
  have h1 := isDg_t hc
  have n1 : c ≠ 105 := fun hh => by rw [hh] at h1; exact absurd h1.2 (by decide)
  have n2 : c ≠ 110 := fun hh => by rw [hh] at h1; exact absurd h1.2 (by decide)
  have n3 : c ≠ 115 := fun hh => by rw [hh] at h1; exact absurd h1.2 (by decide)
  unfold gWord
  rw [if_neg (by
    rw [h]
    rintro (hh | hh)
    · unfold wInf at hh; cases hh; exact n1 rfl
    · unfold wInfinity at hh; cases hh; exact n1 rfl)]
  rw [if_pos]
  rw [h]
  unfold hasPrefix wNan wSnan
  constructor
  · simp [List.isPrefixOf, Ne.symm n2]
  · simp [List.isPrefixOf, Ne.symm n3]
theorem lowB_dg {c : UInt8} (h : isDg c = true) : lowB c = c := by
  have := isDg_t h
  unfold lowB
  rw [if_neg (by omega)]
theorem low_dg {l : List UInt8} (h : l.all isDg = true) : l.map lowB = l := by
  induction l with
  | nil => rfl
  | cons c r ih =>
    simp only [List.all_cons, Bool.and_eq_true] at h
    rw [List.map_cons, lowB_dg h.1, ih h.2]
theorem sgn_pre (s : Bool) {l : List UInt8} (h1 : sgnN l = false) (h2 : sgnR l = l) : sgnN ((if s then [45] else []) ++ l) = s ∧ sgnR ((if s then [45] else []) ++ l) = l := by
  cases s
  · exact ⟨h1, h2⟩
  · have := sgn_cons 45 l
    exact ⟨this.1, this.2⟩
theorem gNum_dg (s : Bool) {D E : List UInt8} (h : D.all isDg = true) (hD : D ≠ []) (hE : E = [] ∨ ∃ r, E = 101 :: r) :
    gNum s (D ++ E) = if E = [] then ⟨1, s, false, bare D, 0, 0⟩ else if expOk (E.drop 1) then ⟨1, s, false, bare D, min (max (expV (E.drop 1)) (-1000000000)) 1000000000, 0⟩ else gBad 2 := by
  have h1 := gDig_app (l := D) (r := E) h (fun c hc => by
    rcases hE with rfl | ⟨r, rfl⟩
    · cases hc
    · cases hc; decide)
  have h2 : hasPrefix E [46] = false := by
    rcases hE with rfl | ⟨r, rfl⟩ <;> rfl
  have h3 : gPart E = [] := by unfold gPart; rw [h2]; rfl
  have h4 : gRest E = E := by unfold gRest; rw [h2]; rfl
  unfold gNum
  rw [h1.1, h1.2, h3, h4, List.append_nil, if_neg hD]
  by_cases hn : E = []
  · rw [if_pos hn, if_pos hn]; simp
  · rw [if_neg hn, if_neg hn]
    rcases hE with rfl | ⟨r, rfl⟩
    · exact absurd rfl hn
    · have : isE (101 :: r) = true := rfl
      rw [this, Bool.true_and]
      simp
theorem gWord_nan (q : Bool) {d : List UInt8} (h : dgOk d = true) : gWord ((if q then [115] else []) ++ [110, 97, 110] ++ (if d = [] then [] else 40 :: (d ++ [41]))) = some (3, q, d) := by
  obtain ⟨hb, ha⟩ := dgOk_id h
  obtain ⟨r, hr⟩ : ∃ r, (if d = [] then [] else 40 :: (d ++ [41])) = r := ⟨_, rfl⟩
  rw [hr]
  have hcase : (d = [] ∧ r = []) ∨ (d ≠ [] ∧ r = 40 :: (d ++ [41])) := by
    by_cases hd : d = []
    · rw [if_pos hd] at hr; exact .inl ⟨hd, hr.symm⟩
    · rw [if_neg hd] at hr; exact .inr ⟨hd, hr.symm⟩
  have hpar : d ≠ [] → gPar (40 :: (d ++ [41])) = true ∧ gIn (40 :: (d ++ [41])) = d := fun hd => by
    have e : gIn (40 :: (d ++ [41])) = d := by
      unfold gIn
      simp
    refine ⟨?_, e⟩
    unfold gPar
    rw [e, ha, Bool.and_true]
    have h1 : hasPrefix (40 :: (d ++ [41])) [40] = true := by simp [hasPrefix, List.isPrefixOf]
    have h2 : hasSuffix (List.drop 1 (40 :: (d ++ [41]))) [41] = true := by
      unfold hasSuffix
      rw [List.isSuffixOf_iff_suffix]
      exact ⟨d, rfl⟩
    rw [h1, h2]
    simpa using hd
  unfold gWord
  cases q
  · rw [if_neg (by rintro (hh | hh) <;> cases hh)]
    have hp : hasPrefix ((if false then [115] else []) ++ [110, 97, 110] ++ r) wNan = true := by simp [hasPrefix, wNan, List.isPrefixOf]
    rw [hp, if_neg (by simp), if_pos rfl]
    dsimp only
    have e : (List.drop 3 ((if false then [115] else []) ++ [110, 97, 110] ++ r)) = r := rfl
    rw [e]
    rcases hcase with ⟨rfl, rfl⟩ | ⟨hd, rfl⟩
    · rw [if_pos rfl]; rfl
    · rw [if_neg (by simp), if_pos (hpar hd).1, (hpar hd).2, hb]; rfl
  · rw [if_neg (by rintro (hh | hh) <;> cases hh)]
    have hp : hasPrefix ((if true then [115] else []) ++ [110, 97, 110] ++ r) wNan = false := by simp [hasPrefix, wNan, List.isPrefixOf]
    have hp2 : hasPrefix ((if true then [115] else []) ++ [110, 97, 110] ++ r) wSnan = true := by simp [hasPrefix, wSnan, List.isPrefixOf]
    rw [hp, hp2, if_neg (by simp)]
    dsimp only
    rw [if_neg (by simp : ¬ (false = true))]
    have e : (List.drop 4 ((if true then [115] else []) ++ [110, 97, 110] ++ r)) = r := rfl
    rw [e]
    rcases hcase with ⟨rfl, rfl⟩ | ⟨hd, rfl⟩
    · rw [if_pos rfl]; rfl
    · rw [if_neg (by simp), if_pos (hpar hd).1, (hpar hd).2, hb]; rfl
theorem low_nan (q : Bool) {d : List UInt8} (h : dgOk d = true) : ((if q then [115] else []) ++ [110, 97, 110] ++ (if d = [] then [] else 40 :: (d ++ [41]))).map lowB = ((if q then [115] else []) ++ [110, 97, 110] ++ (if d = [] then [] else 40 :: (d ++ [41]))) := by
  have ha := (dgOk_id h).2
  have h1 : ((if q then [115] else []) : List UInt8).map lowB = (if q then [115] else []) := by cases q <;> decide
  have h2 : ([110, 97, 110] : List UInt8).map lowB = [110, 97, 110] := by decide
  have h3 : ((if d = [] then [] else 40 :: (d ++ [41])) : List UInt8).map lowB = (if d = [] then [] else 40 :: (d ++ [41])) := by
    split
    · rfl
    · rw [List.map_cons, List.map_append, low_dg ha]; rfl
  rw [List.map_append, List.map_append, h1, h2, h3]
theorem join_iff (c : Int) (s q : Bool) (d : List UInt8) (x : Int) : gCut (gText c s q d x) = ⟨c, s, q, d, x, 0⟩ ↔ gGood c s q d x = true := by
  constructor
  · intro h
    have h0 := gCut_ok (l := gText c s q d x) (by rw [h])
    rw [h] at h0
    dsimp only at h0
    obtain ⟨hl, h1⟩ := h0
    unfold gGood
    rcases h1 with ⟨rfl, rfl, h2, h3, h4⟩ | ⟨rfl, rfl, rfl, rfl⟩ | ⟨rfl, h2, rfl⟩
    · rw [h2]; simp [hl, h3, h4]
    · rfl
    · rw [h2]; simp [hl]
  · intro h
    unfold gGood at h
    simp only [Bool.and_eq_true, Bool.or_eq_true, decide_eq_true_eq, Bool.not_eq_true', List.isEmpty_iff] at h
    obtain ⟨hd, h⟩ := h
    obtain ⟨hb, ha⟩ := dgOk_id hd
    rcases h with (⟨rfl, ⟨hq, hx⟩, hl⟩ | ⟨rfl, ⟨hq, rfl⟩, rfl⟩) | ⟨rfl, rfl, hl⟩
    · subst hq
      have ht : gText 1 s false d x = (if s then [45] else []) ++ ((if d = [] then [48] else d) ++ (if x = 0 then [] else 101 :: itoa x)) := by unfold gText; rw [if_neg (by decide)]
      unfold gCut
      rw [if_neg (by omega), ht]
      obtain ⟨D, hD⟩ : ∃ D, (if d = [] then [48] else d) = D := ⟨_, rfl⟩
      obtain ⟨E, hE⟩ : ∃ E, (if x = 0 then [] else 101 :: itoa x) = E := ⟨_, rfl⟩
      rw [hD, hE]
      have hDa : D.all isDg = true ∧ D ≠ [] ∧ bare D = d := by
        by_cases h0 : d = []
        · rw [if_pos h0] at hD; subst hD; subst h0; decide
        · rw [if_neg h0] at hD; subst hD; exact ⟨ha, h0, hb⟩
      have hs := sgn_dg hDa.1 E hDa.2.1
      have hp := sgn_pre s hs.1 hs.2
      rw [hp.1, hp.2]
      have hw : gWord ((D ++ E).map lowB) = none := by
        obtain ⟨c0, r0, hr⟩ := List.exists_cons_of_ne_nil hDa.2.1
        have hc := hDa.1
        rw [hr] at hc
        simp only [List.all_cons, Bool.and_eq_true] at hc
        refine gWord_no (c := c0) (r := (r0 ++ E).map lowB) ?_ hc.1
        rw [hr, List.cons_append, List.map_cons, lowB_dg hc.1]
      rw [hw]
      dsimp only
      rw [gNum_dg s hDa.1 hDa.2.1 (by
        by_cases h0 : x = 0
        · rw [if_pos h0] at hE; exact .inl hE.symm
        · rw [if_neg h0] at hE; exact .inr ⟨_, hE.symm⟩), hDa.2.2]
      by_cases h0 : x = 0
      · rw [if_pos h0] at hE; subst hE; subst h0; rw [if_pos rfl]
      · rw [if_neg h0] at hE; subst hE
        obtain ⟨e1, e2⟩ := exp_itoa (x := x) (by omega)
        rw [if_neg (by simp), List.drop_one, List.tail_cons, e1, if_pos rfl, e2]
        rw [show min (max x (-1000000000)) 1000000000 = x by omega]
    · subst hq
      cases s <;> decide +kernel
    · have ht : gText 3 s q d 0 = (if s then [45] else []) ++ (((if q then [115] else []) ++ [110, 97, 110] ++ (if d = [] then [] else 40 :: (d ++ [41])))) := by
        unfold gText nanT; rw [if_pos (by decide : (3 : Int) = 2 ∨ (3 : Int) = 3), if_neg (by decide : ¬ (3 : Int) = 2)]
      unfold gCut
      rw [if_neg (by omega), ht]
      have hs : sgnN ((if q then [115] else []) ++ [110, 97, 110] ++ (if d = [] then [] else 40 :: (d ++ [41]))) = false ∧ sgnR ((if q then [115] else []) ++ [110, 97, 110] ++ (if d = [] then [] else 40 :: (d ++ [41]))) = ((if q then [115] else []) ++ [110, 97, 110] ++ (if d = [] then [] else 40 :: (d ++ [41]))) := by
        cases q
        · exact ⟨(sgn_cons 110 _).1, (sgn_cons 110 _).2⟩
        · exact ⟨(sgn_cons 115 _).1, (sgn_cons 115 _).2⟩
      have hp := sgn_pre s hs.1 hs.2
      rw [hp.1, hp.2, low_nan q hd, gWord_nan q hd]
def clE (m x : Int) : Int := min (max x (-m)) m
def tenX (m : Int) (d : List UInt8) (x : Int) : Nat := dv d * 10 ^ (clE m x).toNat
def tenY (m x : Int) : Nat := 10 ^ (-clE m x).toNat
theorem pow_8_10 (k : Nat) : 2 ^ (3 * k) ≤ 10 ^ k := by
  rw [Nat.pow_mul]
  exact Nat.pow_le_pow_left (by decide) k
theorem big10 {k : Nat} (h : 11000 ≤ k) : 33000 ≤ blen (10 ^ k) - 1 ∧ 33000 < blen (10 ^ k) := by
  have := blen_le.2 (pow_8_10 k)
  omega
theorem blen10 {v k : Nat} (h : v < 10 ^ k) : blen v ≤ 4 * k := by
  refine blen_lt.2 (Nat.lt_of_lt_of_le h ?_)
  rw [Nat.pow_mul]
  exact Nat.pow_le_pow_left (by decide) _
theorem rnd_big {n d : Int} {s : Bool} {x : Nat} (hn : 1 ≤ n ∧ n ≤ 6) (h : 33000 < blen x) : rndV n d s x 1 0 = ovV n d s ∧ rndF n d s x 1 0 = 10 := by
  obtain ⟨F1, F2, F3, F4, F5, F6, F7, F8, F9, F10, F11⟩ := bfmt hn
  have hx : x ≠ 0 := fun hc => by rw [hc] at h; exact absurd h (by decide)
  have h1 := (lowS_bound (x := x) (y := 1) (by omega) (by decide)).1
  have h2 := (@rq_b n x 1 0).2.1
  have h3 : rlow x 1 0 = lowS x 1 + 0 := rfl
  have h4 : (blen 1 : Int) = 1 := by decide
  exact rnd_ovA hx (by omega)
theorem rnd_tiny {n d : Int} {s : Bool} {x y : Nat} (hn : 1 ≤ n ∧ n ≤ 6) (hx : 0 < x) (hy : 33000 < blen y) (h : blen x ≤ 16000) :
    rlow x y 0 < 2 - fe n - fp n + fp n - 1 ∧ rq n x y 0 = 2 - fe n - fp n ∧ rdiv n d s x y 0 = divS d s 1 4 := by
  obtain ⟨F1, F2, F3, F4, F5, F6, F7, F8, F9, F10, F11⟩ := bfmt hn
  have hy0 : 0 < y := by
    rcases Nat.eq_zero_or_pos y with hc | hc
    · rw [hc] at hy; exact absurd hy (by decide)
    · exact hc
  have h1 := (lowS_bound hx hy0).2
  have h3 : rlow x y 0 = lowS x y + 0 := rfl
  have h4 := rdiv_tiny (n := n) (d := d) (s := s) (e := 0) hx hy0 (by omega) (by omega)
  exact ⟨by omega, h4.1, h4.2⟩
theorem far_eq {n r : Int} {s : Bool} {d : List UInt8} {x : Int} (hn : 1 ≤ n ∧ n ≤ 6) (hd : dv d < 10 ^ 4000) :
    rndV n r s (tenX 12000 d x) (tenY 12000 x) 0 = rndV n r s (tenX 11000 d x) (tenY 11000 x) 0 ∧ rndF n r s (tenX 12000 d x) (tenY 12000 x) 0 = rndF n r s (tenX 11000 d x) (tenY 11000 x) 0 := by
  unfold tenX tenY
  rcases Nat.eq_zero_or_pos (dv d) with h0 | h0
  · rw [h0, Nat.zero_mul, Nat.zero_mul]
    rw [(rnd_zero (n := n) (d := r) (s := s) (e := 0) rfl).1, (rnd_zero (n := n) (d := r) (s := s) (e := 0) rfl).2, (rnd_zero (n := n) (d := r) (s := s) (e := 0) rfl).1, (rnd_zero (n := n) (d := r) (s := s) (e := 0) rfl).2]
    exact ⟨rfl, rfl⟩
  · have hb := blen10 hd
    have hcase : (-11000 ≤ x ∧ x ≤ 11000) ∨ 11000 < x ∨ x < -11000 := by omega
    rcases hcase with hc | hc | hc
    · have e1 : clE 12000 x = clE 11000 x := by unfold clE; omega
      rw [e1]; exact ⟨rfl, rfl⟩
    · have e1 : (-clE 12000 x).toNat = 0 := by unfold clE; omega
      have e2 : (-clE 11000 x).toNat = 0 := by unfold clE; omega
      rw [e1, e2, Nat.pow_zero]
      have key : ∀ k : Nat, 11000 ≤ k → 33000 < blen (dv d * 10 ^ k) := fun k hk => by
        have h1 : 10 ^ k ≤ dv d * 10 ^ k := by
          have := Nat.mul_le_mul_right (10 ^ k) h0
          omega
        have h2 := blen_le.2 (Nat.le_trans (pow_8_10 k) h1)
        omega
      have k1 := rnd_big (n := n) (d := r) (s := s) hn (key (clE 12000 x).toNat (by unfold clE; omega))
      have k2 := rnd_big (n := n) (d := r) (s := s) hn (key (clE 11000 x).toNat (by unfold clE; omega))
      rw [k1.1, k1.2, k2.1, k2.2]
      exact ⟨rfl, rfl⟩
    · have e1 : (clE 12000 x).toNat = 0 := by unfold clE; omega
      have e2 : (clE 11000 x).toNat = 0 := by unfold clE; omega
      rw [e1, e2, Nat.pow_zero, Nat.mul_one]
      obtain ⟨a1, a2, a3⟩ := rnd_tiny (n := n) (d := r) (s := s) hn h0 (big10 (k := (-clE 12000 x).toNat) (by unfold clE; omega)).2 (by omega)
      obtain ⟨b1, b2, b3⟩ := rnd_tiny (n := n) (d := r) (s := s) hn h0 (big10 (k := (-clE 11000 x).toNat) (by unfold clE; omega)).2 (by omega)
      unfold rndV rndF rq2 rc
      rw [a2, a3, b2, b3, if_pos a1, if_pos b1]
      exact ⟨rfl, rfl⟩
def gPay (n : Int) (q : Bool) (d : List UInt8) : Nat := if q ∧ (if dv d < 2 ^ (fl n).toNat then dv d else 0) = 0 then 1 else (if dv d < 2 ^ (fl n).toNat then dv d else 0)
def mkE (n r c : Int) (s q : Bool) (d : List UInt8) (x : Int) : Int := if okR n r then (if gGood c s q d x then 0 else 2) else 1
def mkV (n r c : Int) (s q : Bool) (d : List UInt8) (x : Int) : Nat :=
  if mkE n r c s q d x = 0 then (if c = 2 then packS n 2 s false 0 0 else if c = 3 then packS n 3 s q (gPay n q d) 0 else rndV n r s (tenX 11000 d x) (tenY 11000 x) 0) else 0
def mkF (n r c : Int) (s q : Bool) (d : List UInt8) (x : Int) : Int :=
  if mkE n r c s q d x = 0 then (if c = 2 then 0 else if c = 3 then 0 else rndF n r s (tenX 11000 d x) (tenY 11000 x) 0) else 0
theorem nanT_len {c : Int} {s q : Bool} {d : List UInt8} : d.length ≤ (nanT c s q d).length ∨ c = 2 := by
  by_cases h : c = 2
  · exact .inr h
  · left
    unfold nanT
    rw [if_neg h]
    by_cases hd : d = []
    · subst hd; simp
    · rw [if_neg hd]; simp; omega
theorem good_len {c : Int} {s q : Bool} {d : List UInt8} {x : Int} (h : gGood c s q d x = true) : d.length ≤ 4000 ∧ (c = 1 ∨ c = 2 ∨ c = 3) ∧ d.all isDg = true := by
  have h0 := (join_iff c s q d x).2 h
  unfold gGood at h
  simp only [Bool.and_eq_true, Bool.or_eq_true, decide_eq_true_eq, Bool.not_eq_true', List.isEmpty_iff] at h
  obtain ⟨hd, h⟩ := h
  refine ⟨?_, ?_, (dgOk_id hd).2⟩
  · rcases h with (⟨rfl, _, hl⟩ | ⟨rfl, ⟨_, rfl⟩, _⟩) | ⟨rfl, _, hl⟩
    · unfold gText at hl
      rw [if_neg (by decide)] at hl
      by_cases hd0 : d = []
      · subst hd0; simp
      · rw [if_neg hd0] at hl
        simp only [List.length_append] at hl
        omega
    · simp
    · unfold gText at hl
      rw [if_pos (by decide)] at hl
      rcases nanT_len (c := 3) (s := s) (q := q) (d := d) with h1 | h1
      · omega
      · exact absurd h1 (by decide)
  · rcases h with (⟨h, _⟩ | ⟨h, _⟩) | ⟨h, _⟩
    · exact .inl h
    · exact .inr (.inl h)
    · exact .inr (.inr h)
def wV (l : List UInt8) : Option (Int × Bool × List UInt8) := gWord (l.map lowB)
def wOk (l : List UInt8) : Bool := (wV l).isSome
def wC (l : List UInt8) : Int := match wV l with | some (c, _, _) => c | none => 0
def wQ (l : List UInt8) : Bool := match wV l with | some (_, q, _) => q | none => false
def wD (l : List UInt8) : List UInt8 := match wV l with | some (_, _, d) => d | none => []
theorem w_some {l : List UInt8} {c : Int} {q : Bool} {d : List UInt8} (h : gWord (l.map lowB) = some (c, q, d)) : wOk l = true ∧ wC l = c ∧ wQ l = q ∧ wD l = d := by
  unfold wOk wC wQ wD wV
  rw [h]; exact ⟨rfl, rfl, rfl, rfl⟩
theorem w_none {l : List UInt8} (h : gWord (l.map lowB) = none) : wOk l = false ∧ wC l = 0 ∧ wQ l = false ∧ wD l = [] := by
  unfold wOk wC wQ wD wV
  rw [h]; exact ⟨rfl, rfl, rfl, rfl⟩
theorem gCut_long {l : List UInt8} (h : 4000 < l.length) : gCut l = gBad 4 := by unfold gCut; rw [if_pos h]
theorem gCut_word {l : List UInt8} (h : l.length ≤ 4000) (hw : wOk (sgnR l) = true) : gCut l = ⟨wC (sgnR l), sgnN l, wQ (sgnR l), wD (sgnR l), 0, 0⟩ := by
  unfold gCut wC wQ wD
  unfold wOk at hw
  rw [if_neg (by omega)]
  have e : gWord ((sgnR l).map lowB) = wV (sgnR l) := rfl
  rw [e]
  cases hv : wV (sgnR l) with
  | none => rw [hv] at hw; cases hw
  | some v => rfl
theorem gCut_num {l : List UInt8} (h : l.length ≤ 4000) (hw : wOk (sgnR l) = false) : gCut l = gNum (sgnN l) (sgnR l) := by
  unfold gCut
  unfold wOk at hw
  rw [if_neg (by omega)]
  have e : gWord ((sgnR l).map lowB) = wV (sgnR l) := rfl
  rw [e]
  cases hv : wV (sgnR l) with
  | none => rfl
  | some v => rw [hv] at hw; cases hw
theorem exp_no {l : List UInt8} (h : gDig (sgnR l) = [] ∨ gOff (sgnR l) ≠ []) : expOk l = false ∧ expV l = 0 := by
  have e : expOk l = false := by
    unfold expOk
    rcases h with h | h
    · cases hs : sgnR l with
      | nil => rfl
      | cons c r =>
        rw [hs] at h
        have : isDg c = false := by
          unfold gDig at h
          rw [List.takeWhile_cons] at h
          split at h
          · cases h
          · rename_i hh; simpa using hh
        simp [this]
    · rcases Bool.eq_false_or_eq_true ((sgnR l).all isDg) with h1 | h1
      · exact absurd (gOff_id h1) h
      · rw [h1, Bool.and_false]
  refine ⟨e, ?_⟩
  unfold expV; rw [e]; rfl
theorem exp_yes {l : List UInt8} (h : gDig (sgnR l) ≠ []) (h2 : gOff (sgnR l) = []) : (sgnR l).all isDg = true ∧ gDig (sgnR l) = sgnR l ∧ expOk l = true ∧ expV l = if sgnN l then -((min (dv (sgnR l)) 2000000000 : Nat) : Int) else ((min (dv (sgnR l)) 2000000000 : Nat) : Int) := by
  have h1 := gOff_nil h2
  have h3 := gDig_id h1
  have e : expOk l = true := by
    unfold expOk
    rw [h1, Bool.and_true]
    rw [h3] at h
    simpa using h
  exact ⟨h1, h3, e, if_pos e⟩
end Go.AM.LN
set_option maxRecDepth 20000
namespace Go.AM.LN
open Go Go.Lib
theorem sgn_t {l : List UInt8} (h : hasPrefix l [45] = true) : sgnN l = true ∧ sgnR l = trimPrefix l [45] := by
  unfold sgnN sgnR trimPrefix; rw [h]; exact ⟨rfl, rfl⟩
theorem sgn_f {l : List UInt8} (h : hasPrefix l [45] = false) : sgnN l = false ∧ sgnR l = trimPrefix l [43] := by
  unfold sgnN sgnR; rw [h]; exact ⟨rfl, rfl⟩
theorem dv48 (l : List UInt8) : dv (48 :: bare l) = dv l := by rw [dv_cons, bare_dv]; simp
theorem exp_lo {l : List UInt8} (h1 : ¬ gDig (sgnR l) = []) (h2 : gOff (sgnR l) = []) : expOk l = true ∧ (sgnN l = true → expV l = 0 - min ((dv (48 :: bare (gDig (sgnR l))) : Nat) : Int) 2000000000) ∧ (sgnN l = false → expV l = min ((dv (48 :: bare (gDig (sgnR l))) : Nat) : Int) 2000000000) := by
  obtain ⟨a, b, c, d⟩ := exp_yes h1 h2
  rw [dv48, b, d]
  refine ⟨c, fun h => ?_, fun h => ?_⟩
  · rw [if_pos h]; omega
  · rw [if_neg (by rw [h]; decide)]; omega
theorem exp_hi {l : List UInt8} (h1 : ¬ gDig (sgnR l) = []) (h2 : gOff (sgnR l) = []) (h3 : 12 ≤ ((bare (gDig (sgnR l))).length : Int)) : expOk l = true ∧ (sgnN l = true → expV l = 0 - min (2000000000 : Int) 2000000000) ∧ (sgnN l = false → expV l = min (2000000000 : Int) 2000000000) := by
  obtain ⟨a, b, c, d⟩ := exp_yes h1 h2
  have hb := bare_big (l := sgnR l) a (by rw [b] at h3; omega)
  rw [d]
  refine ⟨c, fun h => ?_, fun h => ?_⟩
  · rw [if_pos h]; omega
  · rw [if_neg (by rw [h]; decide)]; omega
theorem encodeRune_len (r : Int) : (encodeRune r).length ≤ 4 := by
  unfold encodeRune encodeRuneZ
  repeat' split
  all_goals simp
theorem decodeL_pos {l : List UInt8} (h : l ≠ []) : 1 ≤ (decodeL l).2 := by
  rw [decodeL_N]
  rcases decodeN_shape l.length (l.getD 0 0).toNat (l.getD 1 0).toNat (l.getD 2 0).toNat (l.getD 3 0).toNat with ⟨_, e⟩ | ⟨_, _, _, _, e⟩ | ⟨_, _, _, _, _, _, e⟩ | ⟨_, _, _, _, _, _, _, e⟩ | e <;> (rw [e]; dsimp only; omega)
theorem mapD_len (f : Int → Int) : ∀ (n : Nat) (l : List UInt8), l.length ≤ n → (mapD f l).length ≤ 4 * l.length
  | 0, l, h => by
    have : l = [] := List.length_eq_zero_iff.1 (by omega)
    subst this; simp [mapD_nil]
  | n + 1, [], h => by simp [mapD_nil]
  | n + 1, c :: r, h => by
    rw [mapD_step f _ (by simp)]
    have h1 := decodeL_pos (l := c :: r) (by simp)
    have h2 := mapD_len f n ((c :: r).drop (decodeL (c :: r)).2) (by rw [List.length_drop]; simp at h ⊢; omega)
    have h3 : (if 0 ≤ f (decodeL (c :: r)).1 then encodeRune (f (decodeL (c :: r)).1) else []).length ≤ 4 := by
      split
      · exact encodeRune_len _
      · simp
    rw [List.length_append]
    rw [List.length_drop] at h2
    simp only [List.length_cons] at h2 h ⊢
    omega
theorem w_is {l m : List UInt8} {c : Int} {q : Bool} {d : List UInt8} (hm : mapD lowF l = m) (h : gWord m = some (c, q, d)) : wOk l = true ∧ wC l = c ∧ wQ l = q ∧ wD l = d :=
  w_some (by rw [← word_map, hm]; exact h)
theorem w_no {l m : List UInt8} (hm : mapD lowF l = m) (h : gWord m = none) : wOk l = false ∧ wC l = 0 ∧ wQ l = false ∧ wD l = [] :=
  w_none (by rw [← word_map, hm]; exact h)
theorem gw_i {m : List UInt8} (h : m = wInf) : gWord m = some (2, false, []) := by unfold gWord; rw [if_pos (.inl h)]
theorem gw_j {m : List UInt8} (h : m = wInfinity) : gWord m = some (2, false, []) := by unfold gWord; rw [if_pos (.inr h)]
theorem gw_o {m : List UInt8} (h1 : ¬ m = wInf) (h2 : ¬ m = wInfinity) (h3 : hasPrefix m wNan = false) (h4 : hasPrefix m wSnan = false) : gWord m = none := by
  unfold gWord
  rw [if_neg (by rintro (h | h); exact h1 h; exact h2 h), if_pos ⟨h3, h4⟩]
def gTail (q : Bool) (r : List UInt8) : Option (Int × Bool × List UInt8) := if r = [] then some (3, q, []) else if gPar r then some (3, q, bare (gIn r)) else none
theorem gw_n {m : List UInt8} (h1 : ¬ m = wInf) (h2 : ¬ m = wInfinity) (h3 : hasPrefix m wNan = true) : gWord m = gTail false (trimPrefix m wNan) := by
  have e : trimPrefix m wNan = m.drop 3 := by unfold trimPrefix; rw [if_pos h3]; rfl
  unfold gWord gTail
  rw [if_neg (by rintro (h | h); exact h1 h; exact h2 h), if_neg (by rw [h3]; rintro ⟨h, _⟩; cases h), e, h3]
  rfl
theorem gw_s {m : List UInt8} (h1 : ¬ m = wInf) (h2 : ¬ m = wInfinity) (h3 : hasPrefix m wNan = false) (h4 : hasPrefix m wSnan = true) : gWord m = gTail true (trimPrefix m wSnan) := by
  have e : trimPrefix m wSnan = m.drop 4 := by unfold trimPrefix; rw [if_pos h4]; rfl
  unfold gWord gTail
  rw [if_neg (by rintro (h | h); exact h1 h; exact h2 h), if_neg (by rw [h4]; rintro ⟨_, h⟩; cases h), e, h3]
  rfl
theorem par_i {r : List UInt8} (h1 : hasPrefix r [40] = true) (h2 : hasSuffix (trimPrefix r [40]) [41] = true) : trimPrefix r [40] = r.drop 1 ∧ trimSuffix (trimPrefix r [40]) [41] = gIn r := by
  have e : trimPrefix r [40] = r.drop 1 := by unfold trimPrefix; rw [if_pos h1]; rfl
  refine ⟨e, ?_⟩
  unfold trimSuffix
  rw [if_pos h2, e]
  unfold gIn
  simp only [List.length_drop, List.length_singleton]
  congr 1
theorem gt_0 {q : Bool} {r : List UInt8} (h : r = []) : gTail q r = some (3, q, []) := by unfold gTail; rw [if_pos h]
theorem gt_a {q : Bool} {r : List UInt8} (h : ¬ r = []) (h1 : hasPrefix r [40] = false) : gTail q r = none := by
  unfold gTail gPar; rw [if_neg h, h1]; rfl
theorem gt_b {q : Bool} {r : List UInt8} (h : ¬ r = []) (h1 : hasPrefix r [40] = true) (h2 : hasSuffix (trimPrefix r [40]) [41] = false) : gTail q r = none := by
  have e : trimPrefix r [40] = r.drop 1 := by unfold trimPrefix; rw [if_pos h1]; rfl
  rw [e] at h2
  unfold gTail gPar; rw [if_neg h, h1, h2]; rfl
theorem dg_no {x : List UInt8} (h : gDig x = [] ∨ ¬ gOff x = []) : (!x.isEmpty && x.all isDg) = false := by
  rcases h with h | h
  · cases x with
    | nil => rfl
    | cons c r =>
      have : isDg c = false := by
        unfold gDig at h
        rw [List.takeWhile_cons] at h
        split at h
        · cases h
        · rename_i hh; simpa using hh
      simp [this]
  · rcases Bool.eq_false_or_eq_true (x.all isDg) with h1 | h1
    · exact absurd (gOff_id h1) h
    · rw [h1, Bool.and_false]
theorem dg_yes {x : List UInt8} (h : ¬ gDig x = []) (h2 : gOff x = []) : (!x.isEmpty && x.all isDg) = true ∧ gDig x = x := by
  have h1 := gOff_nil h2
  have h3 := gDig_id h1
  rw [h1, Bool.and_true]
  rw [h3] at h
  exact ⟨by simpa using h, h3⟩
theorem gt_c {q : Bool} {r : List UInt8} (h : ¬ r = []) (h1 : hasPrefix r [40] = true) (h2 : hasSuffix (trimPrefix r [40]) [41] = true) (h3 : gDig (trimSuffix (trimPrefix r [40]) [41]) = [] ∨ ¬ gOff (trimSuffix (trimPrefix r [40]) [41]) = []) : gTail q r = none := by
  obtain ⟨e1, e2⟩ := par_i h1 h2
  rw [e2] at h3
  unfold gTail gPar; rw [if_neg h, dg_no h3, Bool.and_false]; rfl
theorem gt_d {q : Bool} {r : List UInt8} (h : ¬ r = []) (h1 : hasPrefix r [40] = true) (h2 : hasSuffix (trimPrefix r [40]) [41] = true) (h3 : ¬ gDig (trimSuffix (trimPrefix r [40]) [41]) = []) (h4 : gOff (trimSuffix (trimPrefix r [40]) [41]) = []) : gTail q r = some (3, q, bare (gDig (trimSuffix (trimPrefix r [40]) [41]))) := by
  obtain ⟨e1, e2⟩ := par_i h1 h2
  rw [e1] at h2
  rw [e2] at h3 h4 ⊢
  obtain ⟨d1, d2⟩ := dg_yes h3 h4
  unfold gTail gPar; rw [if_neg h, h1, h2, d1, d2]; rfl
theorem trimPre_len (s p : List UInt8) : (trimPrefix s p).length ≤ s.length := by unfold trimPrefix; split <;> simp
theorem trimSuf_len (s p : List UInt8) : (trimSuffix s p).length ≤ s.length := by unfold trimSuffix; split <;> simp
section
variable {s : Bool} {m W P R : List UInt8}
theorem gn1 (hW : gDig m = W) (hP : gPart (gOff m) = P) (hR : gRest (gOff m) = R) (h : W ++ P = []) : gNum s m = gBad 2 := by
  unfold gNum; rw [hW, hP, if_pos h]
theorem gn2 (hW : gDig m = W) (hP : gPart (gOff m) = P) (hR : gRest (gOff m) = R) (hl : P.length ≤ 4000) (h : ¬ W ++ P = []) (h1 : R = []) : gNum s m = ⟨1, s, false, bare (W ++ P), min (max (0 - (P.length : Int)) (-1000000000)) 1000000000, 0⟩ := by
  unfold gNum; rw [hW, hP, hR, if_neg h, if_pos h1]
  rw [show min (max (0 - (P.length : Int)) (-1000000000)) 1000000000 = 0 - (P.length : Int) by omega]
theorem isE_iff {R : List UInt8} (h : ¬ R = []) : isE R = (decide ((R.getD 0 0).toNat = 101) || decide ((R.getD 0 0).toNat = 69)) := by
  cases R with
  | nil => exact absurd rfl h
  | cons c r =>
    have key : ∀ k : UInt8, (some c == some k) = decide (c.toNat = k.toNat) := fun k => by
      by_cases hc : c = k
      · subst hc; simp
      · rw [decide_eq_false (fun h => hc (UInt8.toNat_inj.1 h))]; simpa using hc
    show (some c == some 101 || some c == some 69) = _
    rw [key, key]; rfl
theorem gn3 (hW : gDig m = W) (hP : gPart (gOff m) = P) (hR : gRest (gOff m) = R) (h : ¬ W ++ P = []) (h1 : ¬ R = []) (h2 : ¬ ((R.getD 0 0).toNat : Int) = 101) (h3 : ¬ ((R.getD 0 0).toNat : Int) = 69) : gNum s m = gBad 2 := by
  unfold gNum
  rw [hW, hP, hR, if_neg h, if_neg h1, isE_iff h1, decide_eq_false (by omega), decide_eq_false (by omega)]; rfl
theorem isE_yes (h1 : ¬ R = []) (h2 : ((R.getD 0 0).toNat : Int) = 101 ∨ ((R.getD 0 0).toNat : Int) = 69) : isE R = true := by
  rw [isE_iff h1]
  rcases h2 with h2 | h2
  · rw [decide_eq_true (by omega)]; rfl
  · rw [decide_eq_true (by omega : (R.getD 0 0).toNat = 69), Bool.or_true]
theorem gn4 (hW : gDig m = W) (hP : gPart (gOff m) = P) (hR : gRest (gOff m) = R) (h : ¬ W ++ P = []) (h1 : ¬ R = []) (h2 : ((R.getD 0 0).toNat : Int) = 101 ∨ ((R.getD 0 0).toNat : Int) = 69) (h3 : expOk (R.drop 1) = false) : gNum s m = gBad 2 := by
  unfold gNum
  rw [hW, hP, hR, if_neg h, if_neg h1, h3, Bool.and_false]; rfl
theorem gn5 (hW : gDig m = W) (hP : gPart (gOff m) = P) (hR : gRest (gOff m) = R) (h : ¬ W ++ P = []) (h1 : ¬ R = []) (h2 : ((R.getD 0 0).toNat : Int) = 101 ∨ ((R.getD 0 0).toNat : Int) = 69) (h3 : expOk (R.drop 1) = true) : gNum s m = ⟨1, s, false, bare (W ++ P), min (max (expV (R.drop 1) - (P.length : Int)) (-1000000000)) 1000000000, 0⟩ := by
  unfold gNum
  rw [hW, hP, hR, if_neg h, if_neg h1, h3, isE_yes h1 h2]; rfl
end
theorem pos_of_ne {R : List UInt8} (h : ¬ R = []) : 0 < R.length := List.length_pos_iff.2 h
section
variable {c : Int} {s q : Bool} {d : List UInt8} {x : Int}
theorem bs_eqb (l r : List UInt8) : (bs l == bs r) = (l == r) := by
  rw [Go.beq_toListBytes, Bi, Bi]
theorem join_f0 (h : 4000 < (d.length : Int)) : gGood c s q d x = false := by
  rcases Bool.eq_false_or_eq_true (gGood c s q d x) with h1 | h1
  · have := (good_len h1).1; omega
  · exact h1
theorem join_f1 (h : ¬ (gCut (gText c s q d x)).e = 0) : gGood c s q d x = false := by
  rcases Bool.eq_false_or_eq_true (gGood c s q d x) with h1 | h1
  · rw [(join_iff c s q d x).2 h1] at h; exact absurd rfl h
  · exact h1
theorem join_f2 (hb : (!((gCut (gText c s q d x)).c == c && ((gCut (gText c s q d x)).s == s && ((gCut (gText c s q d x)).q == q && (bs (gCut (gText c s q d x)).d == bs d && (gCut (gText c s q d x)).x == x))))) = true) : gGood c s q d x = false := by
  rcases Bool.eq_false_or_eq_true (gGood c s q d x) with h1 | h1
  · rw [(join_iff c s q d x).2 h1, bs_eqb] at hb; simp at hb
  · exact h1
theorem join_t (he : (gCut (gText c s q d x)).e = 0) (hb : (!((gCut (gText c s q d x)).c == c && ((gCut (gText c s q d x)).s == s && ((gCut (gText c s q d x)).q == q && (bs (gCut (gText c s q d x)).d == bs d && (gCut (gText c s q d x)).x == x))))) = false) : gGood c s q d x = true := by
  rw [bs_eqb] at hb
  simp only [Bool.not_eq_false', Bool.and_eq_true, beq_iff_eq] at hb
  obtain ⟨h1, h2, h3, h4, h5⟩ := hb
  refine (join_iff c s q d x).1 ?_
  generalize gCut (gText c s q d x) = G at *
  obtain ⟨a1, a2, a3, a4, a5, a6⟩ := G
  simp only at *
  subst h1 h2 h3 h4 h5 he
  rfl
theorem gText_len (hd : d.length ≤ 10000) (hx : -9223372036854775808 ≤ x ∧ x ≤ 9223372036854775807) : (gText c s q d x).length ≤ 100000 := by
  have hi := Go.Lib.itoa_length_le x hx.1 hx.2
  have h1 : ((if s then [45] else []) : List UInt8).length ≤ 1 := by split <;> simp
  unfold gText
  split
  · unfold nanT
    have h2 : ((if q then [115] else []) : List UInt8).length ≤ 1 := by split <;> simp
    have h3 : (if d = [] then [] else 40 :: (d ++ [41])).length ≤ d.length + 2 := by split <;> simp
    rw [List.length_append]
    rcases Classical.em (c = 2) with h | h
    · rw [if_pos h]; simp only [List.length_cons, List.length_nil]; omega
    · rw [if_neg h]; simp only [List.length_append, List.length_cons, List.length_nil] at *; omega
  · have h2 : (if d = [] then [48] else d).length ≤ d.length + 1 := by split <;> simp
    have h3 : (if x = 0 then [] else 101 :: itoa x).length ≤ (itoa x).length + 1 := by split <;> simp
    simp only [List.length_append] at *
    omega
end
end Go.AM.LN
