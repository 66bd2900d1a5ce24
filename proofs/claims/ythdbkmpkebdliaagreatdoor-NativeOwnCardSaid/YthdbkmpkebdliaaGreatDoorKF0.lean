/- Part of the proof: own text. -/
import Derived.Test.YthdbkmpkebdliaaGreatDoorKD0
import Derived.Test.YthdbkmpkebdliaaGreatDoorKC0
set_option linter.all false
set_option maxHeartbeats 20000000
set_option maxRecDepth 20000
namespace Go.AM.LN
open Go Go.Lib
theorem p10 (a b : Nat) (h : a ≤ b) : 10 ^ a ≤ 10 ^ b := Nat.pow_le_pow_right (by decide) h
theorem p2_10 (a b : Nat) (h : a ≤ 3 * b) : 2 ^ a ≤ 10 ^ b := Nat.le_trans (Nat.pow_le_pow_right (by decide) h) (pow_8_10 b)
theorem dec_few9 {n k : Nat} (h : n < 10 ^ 18000) (h0 : n / 10 ^ (18 * k) ≠ 0) : k ≤ 999 := by
  apply Classical.byContradiction
  intro hc
  have h1 := p10 18000 (18 * k) (by omega)
  exact h0 (Nat.div_eq_of_lt (Nat.lt_of_lt_of_le h h1))
theorem len9 {x : Nat} (h : x < 10 ^ 18000) : (limbs x).length ≤ 100000000 := Nat.le_trans (ten_len h) (by omega)
theorem decS_len9 {n : Nat} (h : n < 10 ^ 18000) : (decS n).length ≤ 18000 := decS_len h (by omega)
theorem val_lt30 {a : List Int} (h : lim a) (hl : a.length ≤ 30) : val a < 10 ^ 700 := by
  have h1 := val_lt h
  exact Nat.lt_of_lt_of_le h1 (p2_10 (64 * a.length) 700 (by omega))
theorem val_lt30' {a : List Int} (h : lim a) (hl : a.length ≤ 30) : val a < 10 ^ 18000 := Nat.lt_of_lt_of_le (val_lt30 h hl) (p10 700 18000 (by decide))
theorem nan_mk {n r : Int} {q s : Bool} {N : Nat} (hn : 1 ≤ n ∧ n ≤ 6) (hR : okR n r = true) (hN : N < 10 ^ 700) :
    mkE n r 3 s q (decS N) 0 = 0 ∧ mkF n r 3 s q (decS N) 0 = 0 ∧ mkV n r 3 s q (decS N) 0 = packS n 3 s q (payV q N (2 ^ (fl n).toNat)) 0 ∧ isD n 3 q (payV q N (2 ^ (fl n).toNat)) 0 := by
  have hl : (decS N).length ≤ 700 := decS_len hN (by omega)
  have ht := gText_le (c := 3) (s := s) (q := q) (d := decS N) (x := 0) ⟨by omega, by omega⟩
  have G : gGood 3 s q (decS N) 0 = true := by
    unfold gGood
    rw [decS_ok N]
    simp
    omega
  have h := mk_3 (s := s) hR G
  rw [decS_dv] at h
  exact ⟨mk_ok hR G, h.2, h.1, pay_isD hn N⟩
end Go.AM.LN
set_option maxRecDepth 20000
namespace Go.Proofs.AMT
open Go.AM Go.AM.LN
attribute [local congr] bindO_congr bindS_congr bindG_congr awpOps_congr aOne_congr awp_congr aCond_congr awpD_congr dOne_congr keysB_congr nOne_congr thenP_congr blockP_congr Chk_congr Brk_congr
noncomputable def s42 : Cs := fun ds => match ds with
  | [.sl .u64 a] => some ((lim a ∧ a.length ≤ 1000) ∧ val a < 10 ^ 18000, .one (.v (.string (bs (decS (val a))))))
  | _ => none
theorem s42_eq (a : List Int) : norm s42 [.sl .u64 a] = s42 [.sl .u64 a] := rfl
theorem s42_nil1  : norm s42 [.v (.slice none 0 0)] = s42 [.sl .u64 []] := rfl
noncomputable def G42 : Gam := [(105, .body, norm s105), (108, .body, norm s108), (109, .body, norm s109)]
theorem G42_ok : Gk Tryz.prog G42 := Gc sound_105 (Gc sound_108 (Gc sound_109 Gn))
theorem k42_105 : lk G42 105 = some (.body, norm s105) := rfl
theorem k42_108 : lk G42 108 = some (.body, norm s108) := rfl
theorem k42_109 : lk G42 109 = some (.body, norm s109) := rfl
theorem wk42 (a : List Int) (hp : (lim a ∧ a.length ≤ 1000) ∧ val a < 10 ^ 18000) : awp ty G42 (code Tryz.f42) (retP ty Tryz.f42.results.toList (.one (.v (.string (bs (decS (val a))))))) (entry 0 [.sl .u64 a]) [] := by
  unfold code
  simp only [Tryz.f42, Option.getD_some]
  obtain ⟨hpl, hpv⟩ := hp
  obtain ⟨N, hx⟩ : ∃ N, val a = N := ⟨_, rfl⟩
  rw [hx] at hpv ⊢
  have hr10 : ∀ m : Nat, (m : Int).tmod 10 = ((m % 10 : Nat) : Int) := fun m => by rw [Int.tmod_eq_emod_of_nonneg (by omega)]; omega
  have hq10 : ∀ m : Nat, (m : Int).tdiv 10 = ((m / 10 : Nat) : Int) := fun m => by rw [Int.tdiv_eq_ediv_of_nonneg (by omega)]; omega
  have hch : ∀ m : Nat, (48 + ((m % 10 : Nat) : Int)) % 18446744073709551616 % 256 = ((48 + m % 10 : Nat) : Int) := fun m => by omega
  have hB : byteSl ty 131 = true := rfl
  have hln : ∀ s, lim (limbs (N / 10 ^ (18 * s))) ∧ (limbs (N / 10 ^ (18 * s))).length ≤ 100000000 := fun s =>
    ⟨Ml _, len9 (Nat.lt_of_le_of_lt (Nat.div_le_self _ _) hpv)⟩
  all_goals repeat' (first
 | ((with_reducible first | (refine ZA ?_; intro X hX) | (show awp _ _ _ _ (Kp _ _) _) | refine ZD ?_ | refine ZE ?_ | refine ZF ?_ | ((show Bg _ _ _ _ _); simp only [hall]) | (refine ZR ?_ ?_ <;> intro hb <;> (try simp only [hb]) <;> have hq := hb <;> try simp only [HQ] at hq)) <;> try simp only [Go.AM.SS, Nat.reduceAdd, Nat.reduceMul, Nat.reduceSub, ↓reduceIte, Nat.reduceEqDiff, Nat.reduceLT, Nat.reduceLeDiff, reduceCtorEq, Int.reduceBEq, Int.reduceBNe, Nat.reduceBEq, Int.reduceEq, Int.reduceToNat, Int.reduceLE, Int.reduceLT, Nat.reduceDiv, Int.reduceAdd, Int.reduceSub, Int.reduceMul, Int.reduceNeg, Int.reduceGT, Int.reduceGE, Nat.reduceMod, k42_105, s105.eq_1, s105_eq, s105_nil1, k42_108, s108.eq_1, s108_eq, s108_nil1, k42_109, s109.eq_1, s109_eq, s109_nil1, ty_3, ty_5, ty_9, ty_22, ty_50, ty_131, aOne_append, bindP_some, spAppend, intSl, yInts, killE, namesT, names, List.map_cons, List.map_nil, toInts, hx, Vl, List.length_append, lowD_len, upD_len, hr10, hq10, hch, hB, dvBytes, dvOf])
 | with_reducible first
 | (refine hX _ _ ?_; clear hX X)
 | (refine ZG ?_; try clear hall all)
 | (refine hK _ _ ?_; clear hK K)
 | refine ZL ?_
 | (refine v_0 _ _ ?_; try clear v_0 V_0)
 | (refine v_1 _ _ ?_; try clear v_1 V_1)
 | (refine v_2 _ _ ?_; try clear v_2 V_2)
 | (refine v_3 _ _ ?_; try clear v_3 V_3)
    | (with_reducible refine awp_lp (c := .seq (.seq (.region 3 _ _) _) _) (σ := Nat) (fun s => s ≤ 1000) (fun s => [(0, .rd .u64 (limbs (N / 10 ^ (18 * s)))), (3, .ow 480)]) (fun s => [(480, .ints .u8 (lowD N (18 * s)), false)]) (fun s => N / 10 ^ (18 * s)) 0 ?_ ?_ (fun s hs => ?_))
    | (with_reducible refine awp_lp (c := .seq (.region 7 _ _) _) (σ := Nat) (fun z => z ≤ 18) (fun z => [(3, .ow 480), (4, .rd .u64 (limbs (N / 10 ^ (18 * (s + 1))))), (6, .v (.int .u64 (N / 10 ^ (18 * s) % 10 ^ 18 / 10 ^ z : Nat))), (22, .v (.int .i64 z))]) (fun z => [(480, .ints .u8 (lowD N (18 * s + z)), false)]) (fun z => 18 - z) 0 ?_ ?_ (fun z hz => ?_))
    | (with_reducible refine awp_lp (c := .seq (.seq (.region 13 _ _) _) _) (σ := Nat) (fun j => j ≤ 18 * s ∧ N < 10 ^ j) (fun j => [(3, .ow 480), (7, .v (.int .i64 j))]) (fun j => [(480, .ints .u8 (lowD N (18 * s)), false)]) (fun j => j) (18 * s) ?_ ?_ (fun j hj => ?_))
    | (with_reducible refine awp_lp (c := .seq (.region 17 _ _) _) (σ := Nat) (fun y => y ≤ j) (fun y => [(3, .ow 480), (7, .v (.int .i64 j)), (8, .ow 992), (49, .v (.int .i64 j)), (50, .v (.int .i64 y))]) (fun y => [(480, .ints .u8 (lowD N (18 * s)), false), (992, .ints .u8 (upD N j y), false)]) (fun y => j - y) 0 ?_ ?_ (fun y hy => ?_))
 | ((first | refine qr 21 [2] ?_ | refine Zh (a := .seq (.region 16 _ _) _) [8] ?_ | refine qr 15 [3,7,8] ?_ | refine qb 4 [3,7] ?_ | refine qr 12 [3,7] ?_ | refine qb 0 [3] ?_ | refine qr 2 [0,3] ?_ | refine qr 1 [0,3] ?_ | refine qr 0 [0] ?_); intro V_0 v_0)
 | ((first | refine qb 7 [3,7,8,49,50] ?_ | refine Zh (a := .cond (.tmp 51) _ _) [3,7,8,49,50] ?_ | refine qr 17 [3,7,8,49,50,51] ?_ | refine qr 16 [3,7,8,49,50] ?_ | refine Zh (a := .seq (.region 13 _ _) _) [3,7] ?_ | refine Zh (a := .seq (.region 6 _ _) _) [3,4] ?_ | refine qr 5 [3,4,6] ?_ | refine qr 4 [3,4,5] ?_ | refine Zh (a := .seq (.region 3 _ _) _) [0,3] ?_); intro V_1 v_1)
 | ((first | refine qr 18 [3,7,8,9,49,50] ?_ | refine qr 13 [3,7,46] ?_ | refine qb 3 [3,4,6,22] ?_ | refine Zh (a := .cond (.tmp 23) _ _) [3,4,6,22] ?_ | refine qr 7 [3,4,6,22,23] ?_ | refine qr 6 [3,4,6,22] ?_ | refine qr 3 [0,3,14] ?_); intro V_2 v_2)
 | ((first | refine qr 8 [3,4,6,22] ?_); intro V_3 v_3)
 | (refine ZM ?_; intro K hK)
 | (refine ZN ?_; intro all hall K hK)
 | (refine ZQ ?_ ?_)
 | (refine Zg ?_; simp only [↓reduceIte, Nat.reduceEqDiff])
 | refine ZS ?_ | refine ZT ?_ | refine ZU ?_ | refine ZV ?_ | refine ZW ?_ | refine ZX ?_ | refine ZY ?_ | refine ZZ ?_ | refine Za ?_ | refine Ze ?_ | refine Zf ?_)
  all_goals try clear v_3 V_3
  all_goals try clear v_2 V_2
  all_goals try clear v_1 V_1
  all_goals try clear v_0 V_0
  all_goals clear hr10 hq10 hch hB
  all_goals (try simp only [inR])
  all_goals first
    | omega
    | exact Nat.le_refl _
    | exact hln _
    | exact ⟨hpl.1, by omega⟩
    | exact Ent.refl _ _
    | exact ⟨Nat.le_refl _, dec_rest (len_npos (by assumption))⟩
    | ((refine Eo [] rfl ?_ ?_ <;> simp [Me, Sl, AvLe, lk, Ct.len, lowD, upD]); done)
    | ((refine Eo [(480, 480)] rfl ?_ ?_ <;> simp [Me, Sl, AvLe, lk, Ct.len, lowD, upD]); done)
    | exact dec_bd _ _
    | (rw [dec_word, dec_next]; refine Eo [(480, 480)] rfl ?_ ?_ <;> simp [Me, Sl, AvLe, lk, Ct.len, toInts])
    | (rw [low_dig (by assumption), div_pow10]; exact ⟨z + 1, (by (refine Eo [(480, 480)] rfl ?_ ?_ <;> simp only [Me, Sl, AvLe, lk, ↓reduceIte, Nat.reduceEqDiff, Option.isSome_some, and_self, and_true, true_and, reduceCtorEq, List.map_nil, List.map_cons, Option.some.injEq, AV.v.injEq, Value.int.injEq, Value.bool.injEq, AV.rd.injEq, AV.ow.injEq, AV.al.injEq, AV.ref.injEq] <;> omega)), by omega, by omega⟩)
    | (have e : z = 18 := by omega
       subst e
       have h9 := len_pos (by assumption)
       have h8 := dec_few9 hpv h9
       exact ⟨s + 1, (by rw [show 18 * (s + 1) = 18 * s + 18 by omega]; (refine Eo [(480, 480)] rfl ?_ ?_ <;> simp only [Me, Sl, AvLe, lk, ↓reduceIte, Nat.reduceEqDiff, Option.isSome_some, and_self, and_true, true_and, reduceCtorEq, List.map_nil, List.map_cons, Option.some.injEq, AV.v.injEq, Value.int.injEq, Value.bool.injEq, AV.rd.injEq, AV.ow.injEq, AV.al.injEq, AV.ref.injEq] <;> omega)), by omega, dec_less h9⟩)
    | exact ⟨j - 1, (by (refine Eo [(480, 480)] rfl ?_ ?_ <;> simp only [Me, Sl, AvLe, lk, ↓reduceIte, Nat.reduceEqDiff, Option.isSome_some, and_self, and_true, true_and, reduceCtorEq, List.map_nil, List.map_cons, Option.some.injEq, AV.v.injEq, Value.int.injEq, Value.bool.injEq, AV.rd.injEq, AV.ow.injEq, AV.al.injEq, AV.ref.injEq] <;> omega)), ⟨by omega, dec_trim hj.2 (by omega) (trim_yes (by assumption) hj.1 (by assumption))⟩, by omega⟩
    | (rw [up_dig (by assumption) hj.1]; exact ⟨y + 1, (by (refine Eo [(480, 480), (992, 992)] rfl ?_ ?_ <;> simp only [Me, Sl, AvLe, lk, ↓reduceIte, Nat.reduceEqDiff, Option.isSome_some, and_self, and_true, true_and, reduceCtorEq, List.map_nil, List.map_cons, Option.some.injEq, AV.v.injEq, Value.int.injEq, Value.bool.injEq, AV.rd.injEq, AV.ow.injEq, AV.al.injEq, AV.ref.injEq] <;> omega)), by omega, by omega⟩)
    | (rw [show y = j by omega, upD_fin hj.2 (.inl (by omega))])
    | (rw [show y = j by omega, upD_fin hj.2 (.inr (trim_no (by assumption) hj.1 (by assumption)))])
    | skip
theorem sound_42 : Sound Tryz.prog 42 .body (norm s42) := by
  refine sb Tryz.func42 rfl (by kernel_rfl) G42_ok (by kernel_rfl) fun ds p r hs hp => ?_
  unfold s42 at hs
  split at hs
  · cases hs; exact ⟨Nat.le_of_ble_eq_true (by kernel_rfl), wk42 _ hp⟩
  · cases hs
end Go.Proofs.AMT
set_option maxRecDepth 20000
namespace Go.AM.LN
open Go Go.Lib
theorem w4_get {a : List Int} (h : lim a) : a.getD 0 0 = w4 (val a) 0 ∧ a.getD 1 0 = w4 (val a) 1 ∧ a.getD 2 0 = w4 (val a) 2 ∧ a.getD 3 0 = w4 (val a) 3 := by
  have k : ∀ i, a.getD i 0 = w4 (val a) i := fun i => by
    have h1 := val_getD a i h
    have h2 := Mg h (i := i)
    unfold w4
    omega
  exact ⟨k 0, k 1, k 2, k 3⟩
theorem w4_z0 {N : Nat} (h : N = 0) : (w4 N 0 == 0 && (w4 N 1 == 0 && (w4 N 2 == 0 && w4 N 3 == 0))) = true := by subst h; simp [w4_0]
theorem w4_zn {N : Nat} (hN : N < 2 ^ 256) (h : ¬ N = 0) : (w4 N 0 == 0 && (w4 N 1 == 0 && (w4 N 2 == 0 && w4 N 3 == 0))) = false := by
  rw [V4_zero (Wl _ _).1 (Wl _ _).1 (Wl _ _).1 (Wl _ _).1, V4_w4 hN]
  exact decide_eq_false h
end Go.AM.LN
