/- Part of the proof: own text. -/
import Derived.Test.YthdbkmpkebdliaaGreatDoorKA14
set_option linter.all false
set_option maxHeartbeats 20000000
set_option maxRecDepth 20000
namespace Go.Proofs.AMT
open Go.AM Go.AM.LN
attribute [local congr] bindO_congr bindS_congr bindG_congr awpOps_congr aOne_congr awp_congr aCond_congr awpD_congr dOne_congr keysB_congr nOne_congr thenP_congr blockP_congr Chk_congr Brk_congr
noncomputable def s46 : Cs := fun ds => match ds with
  | [.v (.int .i64 n)] => some (True, .many [.v (infoV n), .v (.int .i64 (errV n))])
  | _ => none
theorem s46_eq (n : Int) : norm s46 [.v (.int .i64 n)] = s46 [.v (.int .i64 n)] := rfl
noncomputable def G46 : Gam := []
theorem G46_ok : Gk Tryz.prog G46 := Gn
noncomputable def rofR (n : Int) : Option (Prop × Res) := (lk (GamN ty 1000 bodies extB 10) 46).bind fun s => s.2 [.v (.int .i64 n)]
theorem rofR_1 : rofR 1 = some (True, .many [.v (infoT 1), .v (.int .i64 0)]) := by kernel_rfl
theorem rofR_2 : rofR 2 = some (True, .many [.v (infoT 2), .v (.int .i64 0)]) := by kernel_rfl
theorem rofR_3 : rofR 3 = some (True, .many [.v (infoT 3), .v (.int .i64 0)]) := by kernel_rfl
theorem rofR_4 : rofR 4 = some (True, .many [.v (infoT 4), .v (.int .i64 0)]) := by kernel_rfl
theorem rofR_5 : rofR 5 = some (True, .many [.v (infoT 5), .v (.int .i64 0)]) := by kernel_rfl
theorem rofR_6 : rofR 6 = some (True, .many [.v (infoT 6), .v (.int .i64 0)]) := by kernel_rfl
theorem rofR_7 : rofR 7 = some (True, .many [.v (infoT 7), .v (.int .i64 0)]) := by kernel_rfl
theorem rofR_8 : rofR 8 = some (True, .many [.v (infoT 8), .v (.int .i64 0)]) := by kernel_rfl
theorem rofR_9 : rofR 9 = some (True, .many [.v (infoT 9), .v (.int .i64 0)]) := by kernel_rfl
theorem rofR_10 : rofR 10 = some (True, .many [.v (infoT 10), .v (.int .i64 0)]) := by kernel_rfl
theorem rofR_11 : rofR 11 = some (True, .many [.v (infoT 11), .v (.int .i64 0)]) := by kernel_rfl
theorem rofR_12 : rofR 12 = some (True, .many [.v (infoT 12), .v (.int .i64 0)]) := by kernel_rfl
theorem wk46 (n : Int) (hp : ¬ (1 ≤ n ∧ n ≤ 12)) : awp ty G46 (code Tryz.f46) (retP ty Tryz.f46.results.toList (.many [.v infoZ, .v (.int .i64 1)])) (entry 0 [.v (.int .i64 n)]) [] := by
  unfold code
  simp only [Tryz.f46, Option.getD_some]
  have q1 : (n == 1) = false := by simp only [beq_eq_false_iff_ne, ne_eq]; omega
  have q2 : (n == 2) = false := by simp only [beq_eq_false_iff_ne, ne_eq]; omega
  have q3 : (n == 3) = false := by simp only [beq_eq_false_iff_ne, ne_eq]; omega
  have q4 : (n == 4) = false := by simp only [beq_eq_false_iff_ne, ne_eq]; omega
  have q5 : (n == 5) = false := by simp only [beq_eq_false_iff_ne, ne_eq]; omega
  have q6 : (n == 6) = false := by simp only [beq_eq_false_iff_ne, ne_eq]; omega
  have q7 : (n == 7) = false := by simp only [beq_eq_false_iff_ne, ne_eq]; omega
  have q8 : (n == 8) = false := by simp only [beq_eq_false_iff_ne, ne_eq]; omega
  have q9 : (n == 9) = false := by simp only [beq_eq_false_iff_ne, ne_eq]; omega
  have q10 : (n == 10) = false := by simp only [beq_eq_false_iff_ne, ne_eq]; omega
  have q11 : (n == 11) = false := by simp only [beq_eq_false_iff_ne, ne_eq]; omega
  have q12 : (n == 12) = false := by simp only [beq_eq_false_iff_ne, ne_eq]; omega
  all_goals repeat' (first
 | ((with_reducible first | (refine ZA ?_; intro X hX) | (show awp _ _ _ _ (Kp _ _) _) | refine ZD ?_ | refine ZE ?_ | refine ZF ?_ | ((show Bg _ _ _ _ _); simp only [hall]) | (refine ZR ?_ ?_ <;> intro hb <;> (try simp only [hb]) <;> have hq := hb <;> try simp only [HQ] at hq)) <;> try simp only [Go.AM.SS, Nat.reduceAdd, Nat.reduceMul, Nat.reduceSub, ↓reduceIte, Nat.reduceEqDiff, Nat.reduceLT, Nat.reduceLeDiff, reduceCtorEq, Int.reduceBEq, Int.reduceBNe, Nat.reduceBEq, Int.reduceEq, Int.reduceToNat, Int.reduceLE, Int.reduceLT, Nat.reduceDiv, Int.reduceAdd, Int.reduceSub, Int.reduceMul, Int.reduceNeg, Int.reduceGT, Int.reduceGE, Nat.reduceMod, ty_3, ty_4, ty_9, ty_62, ty_75, q1, q2, q3, q4, q5, q6, q7, q8, q9, q10, q11, q12])
 | with_reducible first
 | (refine hX _ _ ?_; clear hX X)
 | (refine ZG ?_; try clear hall all)
 | (refine hK _ _ ?_; clear hK K)
 | refine ZL ?_
 | (refine v_0 _ _ ?_; try clear v_0 V_0)
 | (refine v_1 _ _ ?_; try clear v_1 V_1)
 | (refine v_2 _ _ ?_; try clear v_2 V_2)
 | ((first | refine qr 35 [2,3] ?_ | refine qr 34 [2,4] ?_ | refine Zh (a := .seq (.region 26 _ _) _) [2,4,5] ?_ | refine qr 25 [0,2,4,5] ?_ | refine Zh (a := .seq (.region 2 _ _) _) [0,2,4] ?_ | refine qr 1 [0,2,4] ?_ | refine qr 0 [0,2] ?_); intro V_0 v_0)
 | ((first | refine qr 28 [2,4,5] ?_ | refine qr 27 [2,4] ?_ | refine qr 31 [2,4,5,90] ?_ | refine qr 30 [2,4,5] ?_ | refine qr 26 [0,2,4,5,64] ?_ | refine qr 3 [2,3] ?_ | refine Zh (a := .seq (.region 22 _ _) _) [0,2,4,54] ?_ | refine Zh (a := .seq (.region 19 _ _) _) [0,2,4,8,47] ?_ | refine Zh (a := .seq (.region 16 _ _) _) [0,2,4,8,40] ?_ | refine qr 14 [0,2,4,8,35] ?_ | refine qr 12 [0,2,4,8,30] ?_ | refine qr 10 [0,2,4,8,25] ?_ | refine qr 8 [0,2,4,8,20] ?_ | refine qr 6 [0,2,4,8,15] ?_ | refine qr 4 [0,2,4,8,10] ?_ | refine qr 2 [0,2,4,8] ?_); intro V_1 v_1)
 | ((first | refine qr 22 [0,2,4,8,54] ?_ | refine qr 19 [0,2,4,8,47] ?_ | refine qr 16 [0,2,4,8,40] ?_); intro V_2 v_2)
 | (refine ZM ?_; intro K hK)
 | (refine ZN ?_; intro all hall K hK)
 | (refine ZQ ?_ ?_)
 | (refine Zg ?_; simp only [↓reduceIte, Nat.reduceEqDiff])
 | refine ZS ?_ | refine ZT ?_ | refine ZU ?_ | refine ZV ?_ | refine ZW ?_ | refine ZX ?_ | refine Ze ?_ | refine Zf ?_)
  all_goals try clear v_2 V_2
  all_goals try clear v_1 V_1
  all_goals try clear v_0 V_0
  all_goals rfl
noncomputable def s46w : Cs := fun ds => match ds with
  | [.v (.int .i64 n)] => some (¬ (1 ≤ n ∧ n ≤ 12), .many [.v infoZ, .v (.int .i64 1)])
  | _ => none
theorem sound_46w : Sound Tryz.prog 46 .body s46w := by
  refine sound_body Tryz.func46 (show Tryz.f46.body = some (code Tryz.f46) from rfl) (by kernel_rfl) tysOk G46_ok (drawOk_ok (by kernel_rfl) tysOk G46_ok) (by kernel_rfl) fun ds p r hs hp => ?_
  unfold s46w at hs
  split at hs
  · cases hs; exact ⟨Nat.le_of_ble_eq_true (by kernel_rfl), wk46 _ hp⟩
  · cases hs
theorem sound_46c : ∀ n : Int, 1 ≤ n ∧ n ≤ 12 → ∃ spec : Cs, Sound Tryz.prog 46 .body spec ∧ spec [.v (.int .i64 n)] = some (True, .many [.v (infoT n), .v (.int .i64 0)]) := by
  intro n hn
  have hg := (GamN_ok (fuel := 1000) (P := Tryz.prog) (by kernel_rfl) tysOk extB_ok extB_free bodies_ok bodies_some 10).1
  have h : rofR n = some (True, .many [.v (infoT n), .v (.int .i64 0)]) := by
    have hn' : n = 1 ∨ n = 2 ∨ n = 3 ∨ n = 4 ∨ n = 5 ∨ n = 6 ∨ n = 7 ∨ n = 8 ∨ n = 9 ∨ n = 10 ∨ n = 11 ∨ n = 12 := by omega
    rcases hn' with rfl | rfl | rfl | rfl | rfl | rfl | rfl | rfl | rfl | rfl | rfl | rfl
    · exact rofR_1
    · exact rofR_2
    · exact rofR_3
    · exact rofR_4
    · exact rofR_5
    · exact rofR_6
    · exact rofR_7
    · exact rofR_8
    · exact rofR_9
    · exact rofR_10
    · exact rofR_11
    · exact rofR_12
  unfold rofR at h
  obtain ⟨⟨fk, spec⟩, h1, h2⟩ := Option.bind_eq_some_iff.1 h
  have hs := hg 46 fk spec h1
  have hfk : fk = .body := by
    have : (lk (GamN ty 1000 bodies extB 10) 46).map (·.1) = some .body := by kernel_rfl
    rw [h1] at this
    exact Option.some.inj this
  subst hfk
  exact ⟨spec, hs, h2⟩
theorem sound_46 : Sound Tryz.prog 46 .body (norm s46) := by
  refine Sn ?_
  obtain ⟨fn, h1, h2, h3, h4⟩ := sound_46w
  refine ⟨fn, h1, h2, h3, fun ds p r hs hp w vs hr => ?_⟩
  unfold s46 at hs
  split at hs
  · rename_i n
    cases hs
    by_cases hn : 1 ≤ n ∧ n ≤ 12
    · obtain ⟨spec, ⟨fn', h1', h2', h3', h4'⟩, h5⟩ := sound_46c n hn
      rw [infoV_in hn, errV_in hn]
      exact h4' _ _ _ h5 trivial w vs hr
    · rw [infoV_out hn, errV_out hn]
      exact h4 _ _ _ rfl hn w vs hr
  · cases hs
noncomputable def s111 : Cs := fun ds => match ds with
  | [.sl .u64 a] => some (a.length ≤ 100000000, .one (.v (.int .i64 (sz a))))
  | _ => none
theorem s111_eq (a : List Int) : norm s111 [.sl .u64 a] = s111 [.sl .u64 a] := rfl
theorem s111_nil1  : norm s111 [.v (.slice none 0 0)] = s111 [.sl .u64 []] := rfl
noncomputable def G111 : Gam := []
theorem G111_ok : Gk Tryz.prog G111 := Gn
theorem wk111 (a : List Int) (hp : a.length ≤ 100000000) : awp ty G111 (code Tryz.f111) (retP ty Tryz.f111.results.toList (.one (.v (.int .i64 (sz a))))) (entry 0 [.sl .u64 a]) [] := by
  unfold code
  simp only [Tryz.f111, Option.getD_some]
  all_goals repeat' (first
 | ((with_reducible first | (refine ZA ?_; intro X hX) | (show awp _ _ _ _ (Kp _ _) _) | refine ZD ?_ | refine ZE ?_ | refine ZF ?_ | ((show Bg _ _ _ _ _); simp only [hall]) | (refine ZR ?_ ?_ <;> intro hb <;> (try simp only [hb]) <;> have hq := hb <;> try simp only [HQ] at hq)) <;> try simp only [Go.AM.SS, Nat.reduceAdd, Nat.reduceMul, Nat.reduceSub, ↓reduceIte, Nat.reduceEqDiff, Nat.reduceLT, Nat.reduceLeDiff, reduceCtorEq, Int.reduceBEq, Int.reduceBNe, Nat.reduceBEq, Int.reduceEq, Int.reduceToNat, Int.reduceLE, Int.reduceLT, Nat.reduceDiv, Int.reduceAdd, Int.reduceSub, Int.reduceMul, Int.reduceNeg, Int.reduceGT, Int.reduceGE, Nat.reduceMod, ty_3, ty_22, ty_50])
 | with_reducible first
 | (refine hX _ _ ?_; clear hX X)
 | (refine ZG ?_; try clear hall all)
 | (refine hK _ _ ?_; clear hK K)
 | refine ZL ?_
 | (refine v_0 _ _ ?_; try clear v_0 V_0)
 | (refine v_1 _ _ ?_; try clear v_1 V_1)
 | (refine v_2 _ _ ?_; try clear v_2 V_2)
    | (with_reducible refine awp_lp (σ := Nat) (fun n => n ≤ a.length ∧ ∀ i, n ≤ i → a.getD i 0 = 0) (fun n => [(0, .rd .u64 a), (3, .v (.int .i64 n))]) (fun _ => []) (fun n => n) a.length ?_ ?_ (fun s hs => ?_))
 | ((first | refine qr 4 [2] ?_ | refine qb 0 [3] ?_ | refine qr 1 [0,3] ?_ | refine qr 0 [0] ?_); intro V_0 v_0)
 | ((first | refine Zh (a := .seq (.region 2 _ _) _) [0,3] ?_); intro V_1 v_1)
 | ((first | refine qr 2 [0,3,15] ?_); intro V_2 v_2)
 | (refine ZM ?_; intro K hK)
 | (refine ZN ?_; intro all hall K hK)
 | (refine ZQ ?_ ?_)
 | (refine Zg ?_; simp only [↓reduceIte, Nat.reduceEqDiff])
 | refine ZS ?_ | refine ZT ?_ | refine ZU ?_ | refine ZV ?_ | refine ZW ?_ | refine ZX ?_ | refine ZY ?_ | refine ZZ ?_ | refine Za ?_ | refine Ze ?_ | refine Zf ?_)
  all_goals try clear v_2 V_2
  all_goals try clear v_1 V_1
  all_goals try clear v_0 V_0
  all_goals (try simp only [inR])
  · exact ⟨Nat.le_refl _, fun i hi => by simp [List.getD, List.getElem?_eq_none hi]⟩
  · with_reducible exact Ent.refl _ _
  · omega
  · omega
  · omega
  · refine ⟨s - 1, by (refine Eo [] rfl ?_ ?_ <;> simp only [Me, Sl, AvLe, lk, ↓reduceIte, Nat.reduceEqDiff, Option.isSome_some, and_self, and_true, true_and, reduceCtorEq, List.map_nil, List.map_cons, Option.some.injEq, AV.v.injEq, Value.int.injEq, Value.bool.injEq, AV.rd.injEq, AV.ow.injEq, AV.al.injEq, AV.ref.injEq] <;> omega), ⟨by omega, fun i hi => ?_⟩, by omega⟩
    by_cases h : s ≤ i
    · exact hs.2 i h
    · have : i = s - 1 := by omega
      subst this
      have e : ((s : Int) - 1).toNat = s - 1 := by omega
      rw [e] at hq
      exact hq
  · have e : ((s : Int) - 1).toNat = s - 1 := by omega
    rw [e] at hq
    rw [sz_eq s hs.1 hs.2 (.inr hq)]
  · rw [sz_eq s hs.1 hs.2 (.inl (by omega))]
theorem sound_111 : Sound Tryz.prog 111 .body (norm s111) := by
  refine sb Tryz.func111 rfl (by kernel_rfl) G111_ok (by kernel_rfl) fun ds p r hs hp => ?_
  unfold s111 at hs
  split at hs
  · cases hs; exact ⟨Nat.le_of_ble_eq_true (by kernel_rfl), wk111 _ hp⟩
  · cases hs
noncomputable def s47 : Cs := fun ds => match ds with
  | [.sl .u64 a] => some (lim a ∧ a.length ≤ 100000000, .one (.v (.int .i64 (blen (val a)))))
  | _ => none
theorem s47_eq (a : List Int) : norm s47 [.sl .u64 a] = s47 [.sl .u64 a] := rfl
theorem s47_nil1  : norm s47 [.v (.slice none 0 0)] = s47 [.sl .u64 []] := rfl
noncomputable def G47 : Gam := [(111, .body, norm s111), (112, .body, norm s112)]
theorem G47_ok : Gk Tryz.prog G47 := Gc sound_111 (Gc sound_112 Gn)
theorem k47_111 : lk G47 111 = some (.body, norm s111) := rfl
theorem k47_112 : lk G47 112 = some (.body, norm s112) := rfl
theorem wk47 (a : List Int) (hp : lim a ∧ a.length ≤ 100000000) : awp ty G47 (code Tryz.f47) (retP ty Tryz.f47.results.toList (.one (.v (.int .i64 (blen (val a)))))) (entry 0 [.sl .u64 a]) [] := by
  unfold code
  simp only [Tryz.f47, Option.getD_some]
  have za := sz_le a
  all_goals repeat' (first
 | ((with_reducible first | (refine ZA ?_; intro X hX) | (show awp _ _ _ _ (Kp _ _) _) | refine ZD ?_ | refine ZE ?_ | refine ZF ?_ | ((show Bg _ _ _ _ _); simp only [hall]) | (refine ZR ?_ ?_ <;> intro hb <;> (try simp only [hb]) <;> have hq := hb <;> try simp only [HQ] at hq)) <;> try simp only [Go.AM.SS, Nat.reduceAdd, Nat.reduceMul, Nat.reduceSub, ↓reduceIte, Nat.reduceEqDiff, Nat.reduceLT, Nat.reduceLeDiff, reduceCtorEq, Int.reduceBEq, Int.reduceBNe, Nat.reduceBEq, Int.reduceEq, Int.reduceToNat, Int.reduceLE, Int.reduceLT, Nat.reduceDiv, Int.reduceAdd, Int.reduceSub, Int.reduceMul, Int.reduceNeg, Int.reduceGT, Int.reduceGE, Nat.reduceMod, k47_111, s111.eq_1, s111_eq, s111_nil1, k47_112, s112.eq_1, s112_eq, ty_3, ty_22, ty_50])
 | with_reducible first
 | (refine hX _ _ ?_; clear hX X)
 | (refine ZG ?_; try clear hall all)
 | (refine hK _ _ ?_; clear hK K)
 | refine ZL ?_
 | (refine v_0 _ _ ?_; try clear v_0 V_0)
 | (refine v_1 _ _ ?_; try clear v_1 V_1)
 | ((first | refine qr 4 [2] ?_ | refine Zh (a := .seq (.region 2 _ _) _) [0,3] ?_ | refine qr 1 [0,3] ?_ | refine qr 0 [0] ?_); intro V_0 v_0)
 | ((first | refine qr 3 [2] ?_ | refine qr 2 [0,3,7] ?_); intro V_1 v_1)
 | (refine ZM ?_; intro K hK)
 | (refine ZN ?_; intro all hall K hK)
 | (refine ZQ ?_ ?_)
 | refine ZT ?_ | refine ZU ?_ | refine ZW ?_)
  all_goals try clear v_1 V_1
  all_goals try clear v_0 V_0
  all_goals (try simp only [inR])
  all_goals (try omega)
  · have h0 := (sz_zero hp.1).1 (by omega)
    rw [h0]; rfl
  all_goals have e : ((sz a : Int) - 1).toNat = sz a - 1 := by omega
  all_goals rw [e]
  all_goals have hg := Mg hp.1 (i := sz a - 1)
  · exact hg
  all_goals have h1 := blen_top hp.1 (by omega)
  all_goals have h2 : blen (a.getD (sz a - 1) 0).toNat ≤ 64 := blen_lt.2 (by omega)
  · omega
  · refine congrArg _ ?_
    omega
theorem sound_47 : Sound Tryz.prog 47 .body (norm s47) := by
  refine sb Tryz.func47 rfl (by kernel_rfl) G47_ok (by kernel_rfl) fun ds p r hs hp => ?_
  unfold s47 at hs
  split at hs
  · cases hs; exact ⟨Nat.le_of_ble_eq_true (by kernel_rfl), wk47 _ hp⟩
  · cases hs
noncomputable def s39 : Cs := fun ds => match ds with
  | [.sl .u64 a, .v (.int .i64 n)] => some ((lim a ∧ a.length ≤ 40000000) ∧ 0 ≤ n ∧ n ≤ 1000000000, .one (.fresh .u64 (limbs (val a * 2 ^ n.toNat))))
  | _ => none
theorem s39_eq (a : List Int) (n : Int) : norm s39 [.sl .u64 a, .v (.int .i64 n)] = s39 [.sl .u64 a, .v (.int .i64 n)] := rfl
theorem s39_nil1  (n : Int) : norm s39 [.v (.slice none 0 0), .v (.int .i64 n)] = s39 [.sl .u64 [], .v (.int .i64 n)] := rfl
noncomputable def G39 : Gam := [(105, .body, norm s105)]
theorem G39_ok : Gk Tryz.prog G39 := Gc sound_105 Gn
theorem k39_105 : lk G39 105 = some (.body, norm s105) := rfl
theorem wk39 (a : List Int) (n : Int) (hp : (lim a ∧ a.length ≤ 40000000) ∧ 0 ≤ n ∧ n ≤ 1000000000) : awp ty G39 (code Tryz.f39) (retP ty Tryz.f39.results.toList (.one (.fresh .u64 (limbs (val a * 2 ^ n.toNat))))) (entry 0 [.sl .u64 a, .v (.int .i64 n)]) [] := by
  unfold code
  simp only [Tryz.f39, Option.getD_some]
  obtain ⟨k, rfl⟩ := Int.eq_ofNat_of_zero_le hp.2.1
  have hk : k = 64 * (k / 64) + k % 64 := by omega
  obtain ⟨w, hw⟩ : ∃ w, k / 64 = w := ⟨_, rfl⟩
  obtain ⟨t, ht⟩ : ∃ t, k % 64 = t := ⟨_, rfl⟩
  have hd : (k : Int).tdiv 64 = (w : Int) := by rw [Int.tdiv_eq_ediv_of_nonneg (by omega)]; omega
  have hm : (k : Int).tmod 64 = (t : Int) := by rw [Int.tmod_eq_emod_of_nonneg (by omega)]; omega
  have hmm : (t : Int) % 18446744073709551616 = (t : Int) := by omega
  have m1 : min t 64 = t := by omega
  have m2 : ((64 - (t : Int)) % 18446744073709551616).toNat = 64 - t := by omega
  have m3 : min (64 - t) 64 = 64 - t := by omega
  obtain ⟨N, hN⟩ : ∃ N, a.length + w + 1 = N := ⟨_, rfl⟩
  have mT : ((a.length : Int) + (w : Int) + 1).toNat = N := by omega
  rcases Nat.eq_zero_or_pos t with ht0 | ht0
  all_goals first
    | (have g5 : decide ((t : Int) > 0) = true := by simp only [decide_eq_true_eq]; omega)
    | (have g5 : decide ((t : Int) > 0) = false := by simp only [decide_eq_false_iff_not]; omega)
  all_goals repeat' (first
 | ((with_reducible first | (refine ZA ?_; intro X hX) | (refine ZB ?_; intro X hX) | (show awp _ _ _ _ (Kp _ _) _) | (refine hX _ _ _ _ ?_; clear hX X) | (refine ZC ?_; intro X hX) | refine ZD ?_ | refine ZE ?_ | refine ZF ?_ | ((show Bg _ _ _ _ _); simp only [hall]) | (refine ZR ?_ ?_ <;> intro hb <;> (try simp only [hb]) <;> have hq := hb <;> try simp only [HQ] at hq)) <;> try simp only [Go.AM.SS, Nat.reduceAdd, Nat.reduceMul, Nat.reduceSub, ↓reduceIte, Nat.reduceEqDiff, Nat.reduceLT, Nat.reduceLeDiff, reduceCtorEq, Int.reduceBEq, Int.reduceBNe, Nat.reduceBEq, Int.reduceEq, Int.reduceToNat, Int.reduceLE, Int.reduceLT, Nat.reduceDiv, Int.reduceAdd, Int.reduceSub, Int.reduceMul, Int.reduceNeg, Int.reduceGT, Int.reduceGE, Nat.reduceMod, k39_105, s105.eq_1, s105_eq, s105_nil1, ty_3, ty_22, ty_50, ty_75, List.length_replicate, hd, hm, hmm, mT, IntKind.bits, m1, m2, m3, g5])
 | with_reducible first
 | (refine hX _ _ ?_; clear hX X)
 | (refine ZI ?_; try clear hall all)
 | (refine ZJ ?_; kernel_rfl)
 | ((show clashK _ _ _ = true); kernel_rfl)
 | (refine ZG ?_; try clear hall all)
 | (refine ZH ?_; try clear hall all)
 | (refine hK _ _ ?_; clear hK K)
 | refine ZL ?_
 | (refine v_0 _ _ ?_; try clear v_0 V_0)
 | (refine v_1 _ _ ?_; try clear v_1 V_1)
 | (refine v_2 _ _ ?_; try clear v_2 V_2)
    | (with_reducible refine awp_lp (σ := Nat × List Int) (fun s => (s.1 ≤ a.length ∧ s.2.length = N) ∧ lim s.2 ∧ val s.2 = val (a.take s.1) * 2 ^ (64 * w + t)) (fun s => [(0, .rd .u64 a), (1, .v (.int .i64 k)), (5, .ow 208), (15, .v (.int .i64 a.length)), (16, .v (.int .i64 s.1))]) (fun s => [(208, .ints .u64 s.2, false)]) (fun s => a.length - s.1) (0, List.replicate N 0) ?_ ?_ (fun s hs => ?_))
 | ((first | refine qr 9 [4] ?_ | refine Zh (a := .seq (.region 2 _ _) _) [5] ?_ | refine qr 1 [0,1,5] ?_ | refine qr 0 [0,1] ?_); intro V_0 v_0)
 | ((first | refine qb 1 [0,1,5,15,16] ?_ | refine Zh (a := .cond (.tmp 17) _ _) [0,1,5,15,16] ?_ | refine qr 3 [0,1,5,15,16,17] ?_ | refine qr 2 [0,1,5,15,16] ?_); intro V_1 v_1)
 | ((first | refine qr 6 [0,1,5,6,15,16,43] ?_ | refine qr 5 [0,1,5,6,15,16] ?_ | refine qr 4 [0,1,5,6,15,16] ?_); intro V_2 v_2)
 | (refine ZM ?_; intro K hK)
 | (refine ZN ?_; intro all hall K hK)
 | (refine Da (id := 5) ?_ ?_; kernel_rfl; intro all hall K hK)
 | (refine ZO ?_ ?_; kernel_rfl; intro all hall K hK)
 | (refine ZQ ?_ ?_)
 | (refine ZK ?_; kernel_rfl)
 | (refine Zg ?_; simp only [↓reduceIte, Nat.reduceEqDiff])
 | refine ZS ?_ | refine ZT ?_ | refine ZU ?_ | refine ZV ?_ | refine ZW ?_ | refine ZX ?_ | refine ZY ?_ | refine ZZ ?_ | refine Za ?_ | refine Ze ?_ | refine Zf ?_)
  all_goals try clear v_2 V_2
  all_goals try clear v_1 V_1
  all_goals try clear v_0 V_0
  all_goals clear hmm m1 m2 m3 mT g5 hm hd
  all_goals (try simp only [inR])
  all_goals (try (rcases s with ⟨i, o⟩))
  all_goals (try (obtain ⟨ss, hs⟩ := hs))
  all_goals (try dsimp only at *)
  all_goals (try omega)
  · exact ⟨⟨Nat.zero_le _, by simp⟩, lim_rep _, by simp [val_rep, val]⟩
  · exact Ent.refl _ _
  · have e : ((i : Int) + (w : Int)).toNat = i + w := by omega
    have h1 := left_lt hp.1.1 hs.2
    rw [ht0, Nat.pow_zero, Nat.mul_one] at h1
    have h0 := getD_zero_of_lt hs.1 h1
    have h4 := Mg hp.1.1 (i := i)
    rw [e, h0, ht0]
    have h5 : a.getD i 0 * 2 ^ 0 % 18446744073709551616 = a.getD i 0 := by omega
    rw [h5, bits0 h4]
    have h6 := hs.2
    rw [ht0, Nat.add_zero] at h6
    exact ⟨(i + 1, o.set (i + w) (a.getD i 0)), (by (refine Eo [(208, 208)] rfl ?_ ?_ <;> simp only [Me, Sl, AvLe, lk, ↓reduceIte, Nat.reduceEqDiff, Option.isSome_some, and_self, and_true, true_and, reduceCtorEq, List.map_nil, List.map_cons, Option.some.injEq, AV.v.injEq, Value.int.injEq, Value.bool.injEq, AV.rd.injEq, AV.ow.injEq, AV.al.injEq, AV.ref.injEq] <;> omega)), ⟨⟨by dsimp only; omega, by simp; omega⟩, lim_set hs.1 h4 _, left_step0 hp.1.1 (by omega) h6 h0⟩, by dsimp only; omega⟩
  · exact ⟨hs.1, by omega⟩
  · have hi : i = a.length := by omega
    rw [hs.2, hi, List.take_length, hk, hw, ht]
  · exact ⟨⟨Nat.zero_le _, by simp⟩, lim_rep _, by simp [val_rep, val]⟩
  · exact Ent.refl _ _
  · have e : ((i : Int) + (w : Int)).toNat = i + w := by omega
    have h1 := left_lt hp.1.1 hs.2
    have e2 : ((i : Int) + (w : Int) + 1).toNat = i + w + 1 := by omega
    have h2 := low_word (V := 0) hs.1 h1 (show t ≤ 64 by omega)
    have h3 := Mg hs.1 (i := i + w)
    have h4 := Mg hp.1.1 (i := i)
    have h5 : o.getD (i + w + 1) 0 = 0 := getD_zero_of_lt hs.1 (Nat.lt_of_lt_of_le h1 (by rw [← Nat.pow_add]; exact Nat.pow_le_pow_right (by omega) (by omega)))
    rw [e, e2, or_low ⟨h3.1, h2⟩ h4 (by omega), castShr2 h4.1]
    have h6 : (o.getD (i + w) 0).toNat + (a.getD i 0).toNat * 2 ^ t % 18446744073709551616 < 18446744073709551616 := low_sum (by omega) h2
    have h7 : (a.getD i 0).toNat / 2 ^ (64 - t) < 18446744073709551616 := Nat.lt_of_le_of_lt (Nat.div_le_self _ _) (by omega)
    exact ⟨(i + 1, (o.set (i + w) (((o.getD (i + w) 0).toNat + (a.getD i 0).toNat * 2 ^ t % 18446744073709551616 : Nat) : Int)).set (i + w + 1) (((a.getD i 0).toNat / 2 ^ (64 - t) : Nat) : Int)), (by (refine Eo [(208, 208)] rfl ?_ ?_ <;> simp only [Me, Sl, AvLe, lk, ↓reduceIte, Nat.reduceEqDiff, Option.isSome_some, and_self, and_true, true_and, reduceCtorEq, List.map_nil, List.map_cons, Option.some.injEq, AV.v.injEq, Value.int.injEq, Value.bool.injEq, AV.rd.injEq, AV.ow.injEq, AV.al.injEq, AV.ref.injEq] <;> omega)), ⟨⟨by dsimp only; omega, by simp; omega⟩, lim_set (lim_set hs.1 (nat_lim h6) _) (nat_lim h7) _, left_step hp.1.1 (by omega) (by omega) hs.2 rfl h5⟩, by dsimp only; omega⟩
  · exact ⟨hs.1, by omega⟩
  · have hi : i = a.length := by omega
    rw [hs.2, hi, List.take_length, hk, hw, ht]
theorem sound_39 : Sound Tryz.prog 39 .body (norm s39) := by
  refine sb Tryz.func39 rfl (by kernel_rfl) G39_ok (by kernel_rfl) fun ds p r hs hp => ?_
  unfold s39 at hs
  split at hs
  · cases hs; exact ⟨Nat.le_of_ble_eq_true (by kernel_rfl), wk39 _ _ hp⟩
  · cases hs
noncomputable def s69 : Cs := fun ds => match ds with
  | [.sl .u64 a, .v (.int .i64 n)] => some ((lim a ∧ a.length ≤ 60000000) ∧ 0 ≤ n ∧ n ≤ 1000000000, .many [.fresh .u64 (limbs (val a / 2 ^ n.toNat)), .v (.bool (goneS a (n.toNat / 64) (n.toNat % 64) a.length))])
  | _ => none
theorem s69_eq (a : List Int) (n : Int) : norm s69 [.sl .u64 a, .v (.int .i64 n)] = s69 [.sl .u64 a, .v (.int .i64 n)] := rfl
theorem s69_nil1  (n : Int) : norm s69 [.v (.slice none 0 0), .v (.int .i64 n)] = s69 [.sl .u64 [], .v (.int .i64 n)] := rfl
noncomputable def G69 : Gam := [(105, .body, norm s105), (109, .body, norm s109)]
theorem G69_ok : Gk Tryz.prog G69 := Gc sound_105 (Gc sound_109 Gn)
theorem k69_105 : lk G69 105 = some (.body, norm s105) := rfl
theorem k69_109 : lk G69 109 = some (.body, norm s109) := rfl
theorem wk69 (a : List Int) (n : Int) (hp : (lim a ∧ a.length ≤ 60000000) ∧ 0 ≤ n ∧ n ≤ 1000000000) : awp ty G69 (code Tryz.f69) (retP ty Tryz.f69.results.toList (.many [.fresh .u64 (limbs (val a / 2 ^ n.toNat)), .v (.bool (goneS a (n.toNat / 64) (n.toNat % 64) a.length))])) (entry 0 [.sl .u64 a, .v (.int .i64 n)]) [] := by
  unfold code
  simp only [Tryz.f69, Option.getD_some]
  obtain ⟨k, rfl⟩ := Int.eq_ofNat_of_zero_le hp.2.1
  have hk : k = 64 * (k / 64) + k % 64 := by omega
  have mT : (k : Int).toNat = k := by omega
  obtain ⟨w, hw⟩ : ∃ w, k / 64 = w := ⟨_, rfl⟩
  obtain ⟨t, ht⟩ : ∃ t, k % 64 = t := ⟨_, rfl⟩
  have hd : (k : Int).tdiv 64 = (w : Int) := by rw [Int.tdiv_eq_ediv_of_nonneg (by omega)]; omega
  have hm : (k : Int).tmod 64 = (t : Int) := by rw [Int.tmod_eq_emod_of_nonneg (by omega)]; omega
  have hmm : (t : Int) % 18446744073709551616 = (t : Int) := by omega
  have m1 : min t 64 = t := by omega
  have m2 : ((64 - (t : Int)) % 18446744073709551616).toNat = 64 - t := by omega
  have m3 : min (64 - t) 64 = 64 - t := by omega
  have p1 : (2 : Int) ^ t < 2 ^ 64 := by exact_mod_cast Nat.pow_lt_pow_right (by omega) (show t < 64 by omega)
  have p2 : (1 : Int) ≤ 2 ^ t := by exact_mod_cast Nat.one_le_two_pow
  have p3 : (2 : Int) ^ 64 = 18446744073709551616 := by decide
  have mk : 1 * (2 : Int) ^ t % 18446744073709551616 = 2 ^ t := by omega
  have mk2 : ((2 : Int) ^ t - 1) % 18446744073709551616 = 2 ^ t - 1 := by omega
  clear p1 p2 p3
  rcases Nat.eq_zero_or_pos t with ht0 | ht0
  all_goals first
    | (have g5 : decide ((t : Int) > 0) = true := by simp only [decide_eq_true_eq]; omega)
    | (have g5 : decide ((t : Int) > 0) = false := by simp only [decide_eq_false_iff_not]; omega)
  all_goals repeat' (first
 | ((with_reducible first | (refine ZA ?_; intro X hX) | (show awp _ _ _ _ (Kp _ _) _) | refine ZD ?_ | refine ZE ?_ | refine ZF ?_ | ((show Bg _ _ _ _ _); simp only [hall]) | (refine ZR ?_ ?_ <;> intro hb <;> (try simp only [hb]) <;> have hq := hb <;> try simp only [HQ] at hq)) <;> try simp only [Go.AM.SS, Nat.reduceAdd, Nat.reduceMul, Nat.reduceSub, ↓reduceIte, Nat.reduceEqDiff, Nat.reduceLT, Nat.reduceLeDiff, reduceCtorEq, Int.reduceBEq, Int.reduceBNe, Nat.reduceBEq, Int.reduceEq, Int.reduceToNat, Int.reduceLE, Int.reduceLT, Nat.reduceDiv, Int.reduceAdd, Int.reduceSub, Int.reduceMul, Int.reduceNeg, Int.reduceGT, Int.reduceGE, Nat.reduceMod, k69_105, s105.eq_1, s105_eq, s105_nil1, k69_109, s109.eq_1, s109_eq, s109_nil1, ty_3, ty_22, ty_50, ty_75, aOne_append, bindP_some, spAppend, intSl, yInts, killE, namesT, names, List.map_cons, List.map_nil, toInts, hd, hm, hmm, hw, ht, mT, IntKind.bits, m1, m2, m3, mk, mk2, g5, List.length_append])
 | with_reducible first
 | (refine hX _ _ ?_; clear hX X)
 | (refine ZG ?_; try clear hall all)
 | (refine hK _ _ ?_; clear hK K)
 | refine ZL ?_
 | (refine v_0 _ _ ?_; try clear v_0 V_0)
 | (refine v_1 _ _ ?_; try clear v_1 V_1)
 | (refine v_2 _ _ ?_; try clear v_2 V_2)
 | (refine v_3 _ _ ?_; try clear v_3 V_3)
    | (with_reducible refine awp_lp (c := .seq (.region 3 _ _) _) (σ := Nat) (fun s => s ≤ a.length) (fun s => [(0, .rd .u64 a), (1, .v (.int .i64 k)), (6, .v (.bool (goneS a w t s))), (12, .v (.int .i64 a.length)), (13, .v (.int .i64 s))]) (fun s => []) (fun s => a.length - s) 0 ?_ ?_ (fun s hs => ?_))
    | (with_reducible refine awp_lp (c := .seq (.seq (.region 10 _ _) _) _) (σ := Nat × List Int) (fun z => (w ≤ z.1 ∧ (z.1 ≤ a.length ∨ z.1 = w) ∧ z.2.length = z.1 - w) ∧ lim z.2 ∧ val z.2 + 2 ^ (64 * (z.1 - w)) * (val (a.drop z.1) / 2 ^ t) = val (a.drop w) / 2 ^ t) (fun z => [(0, .rd .u64 a), (1, .v (.int .i64 k)), (6, .v (.bool (goneS a w t a.length))), (8, .ow 1280), (9, .v (.int .i64 z.1))]) (fun z => [(1280, .ints .u64 z.2, false)]) (fun z => a.length + w - z.1) (w, []) ?_ ?_ (fun z hz => ?_))
 | ((first | refine qr 16 [4,5] ?_ | refine Zh (a := .seq (.region 9 _ _) _) [6,8] ?_ | refine qr 8 [0,1,6,8] ?_ | refine Zh (a := .seq (.region 2 _ _) _) [0,1,6] ?_ | refine qr 1 [0,1,6] ?_ | refine qr 0 [0,1] ?_); intro V_0 v_0)
 | ((first | refine qb 3 [0,1,6,8,9] ?_ | refine Zh (a := .seq (.region 10 _ _) _) [0,1,6,8,9] ?_ | refine qr 9 [0,1,6,8,9] ?_ | refine qb 1 [0,1,6,12,13] ?_ | refine Zh (a := .cond (.tmp 14) _ _) [0,1,6,12,13] ?_ | refine qr 3 [0,1,6,12,13,14] ?_ | refine qr 2 [0,1,6,12,13] ?_); intro V_1 v_1)
 | ((first | refine Zh (a := .seq (.region 13 _ _) _) [0,1,6,8,9,10] ?_ | refine qr 12 [0,1,6,8,9,10] ?_ | refine qr 10 [0,1,6,8,9,52] ?_ | refine qr 5 [0,1,6,12,13,45] ?_ | refine qr 4 [0,1,6,7,12,13] ?_); intro V_2 v_2)
 | ((first | refine qr 13 [0,1,6,8,9,10,65] ?_); intro V_3 v_3)
 | (refine ZM ?_; intro K hK)
 | (refine ZN ?_; intro all hall K hK)
 | (refine ZQ ?_ ?_)
 | (refine Zg ?_; simp only [↓reduceIte, Nat.reduceEqDiff])
 | refine ZS ?_ | refine ZT ?_ | refine ZU ?_ | refine ZV ?_ | refine ZW ?_ | refine ZX ?_ | refine ZY ?_ | refine ZZ ?_ | refine Za ?_ | refine Ze ?_ | refine Zf ?_)
  all_goals try clear v_3 V_3
  all_goals try clear v_2 V_2
  all_goals try clear v_1 V_1
  all_goals try clear v_0 V_0
  all_goals clear hmm m1 m2 m3 mT g5 hm hd mk mk2
  all_goals (try simp only [inR])
  all_goals (try (rcases z with ⟨i, o⟩))
  all_goals (try dsimp only at *)
  all_goals first
    | omega
    | exact ⟨hp.1.1, by omega⟩
    | exact ⟨by omega, by omega⟩
    | (rw [goneS_zero]; (refine Eo [] rfl ?_ ?_ <;> simp only [Me, Sl, AvLe, lk, ↓reduceIte, Nat.reduceEqDiff, Option.isSome_some, and_self, and_true, true_and, reduceCtorEq, List.map_nil, List.map_cons, Option.some.injEq, AV.v.injEq, Value.int.injEq, Value.bool.injEq, AV.rd.injEq, AV.ow.injEq, AV.al.injEq, AV.ref.injEq] <;> omega); done)
    | exact ⟨s + 1, (by rw [gone_t1 (by assumption) (by assumption)]; (refine Eo [] rfl ?_ ?_ <;> simp only [Me, Sl, AvLe, lk, ↓reduceIte, Nat.reduceEqDiff, Option.isSome_some, and_self, and_true, true_and, reduceCtorEq, List.map_nil, List.map_cons, Option.some.injEq, AV.v.injEq, Value.int.injEq, Value.bool.injEq, AV.rd.injEq, AV.ow.injEq, AV.al.injEq, AV.ref.injEq] <;> omega)), by omega, by omega⟩
    | exact ⟨s + 1, (by rw [gone_t2 (by assumption) (by assumption)]; (refine Eo [] rfl ?_ ?_ <;> simp only [Me, Sl, AvLe, lk, ↓reduceIte, Nat.reduceEqDiff, Option.isSome_some, and_self, and_true, true_and, reduceCtorEq, List.map_nil, List.map_cons, Option.some.injEq, AV.v.injEq, Value.int.injEq, Value.bool.injEq, AV.rd.injEq, AV.ow.injEq, AV.al.injEq, AV.ref.injEq] <;> omega)), by omega, by omega⟩
    | exact ⟨s + 1, (by rw [gone_f (fun h => by first | assumption | omega) (fun h => by first | assumption | omega)]; (refine Eo [] rfl ?_ ?_ <;> simp only [Me, Sl, AvLe, lk, ↓reduceIte, Nat.reduceEqDiff, Option.isSome_some, and_self, and_true, true_and, reduceCtorEq, List.map_nil, List.map_cons, Option.some.injEq, AV.v.injEq, Value.int.injEq, Value.bool.injEq, AV.rd.injEq, AV.ow.injEq, AV.al.injEq, AV.ref.injEq] <;> omega)), by omega, by omega⟩
    | exact ⟨⟨Nat.le_refl _, .inr trivial, by simp⟩, fun x hx => by simp at hx, by simp [val]⟩
    | exact ⟨⟨Nat.le_refl _, .inr trivial, by simp⟩, by simp [lim], by simp [val]⟩
    | (have e : s = a.length := by omega
       rw [e]; (refine Eo [] rfl ?_ ?_ <;> simp [Me, Sl, AvLe, lk, Ct.len]); done)
    | exact ⟨hz.2.1, by omega⟩
    | (have hk2 : k = 64 * w + t := by omega
       have hi : a.length ≤ i := by omega
       rw [right_fin hp.1.1 hk2 hi hz.2.2]; done)
    | (rw [rX0 hp.1.1 ht0]
       have hl := hz.1.2.2
       exact ⟨(i + 1, o ++ [(rX a i t : Int)]), (by (refine Eo [(1280, 1280)] rfl ?_ ?_ <;> simp only [Me, Sl, AvLe, lk, ↓reduceIte, Nat.reduceEqDiff, Option.isSome_some, and_self, and_true, true_and, reduceCtorEq, List.map_nil, List.map_cons, Option.some.injEq, AV.v.injEq, Value.int.injEq, Value.bool.injEq, AV.rd.injEq, AV.ow.injEq, AV.al.injEq, AV.ref.injEq] <;> omega)), ⟨⟨by dsimp only; omega, .inl (by dsimp only; omega), by simp; omega⟩, lim_app.2 ⟨hz.2.1, lim_one (nat_lim (rX_lt hp.1.1 (by omega)))⟩, right_go hp.1.1 (by omega) hl (by omega) hz.2.2⟩, by dsimp only; omega⟩)
    | (have e : ((i : Int) + 1).toNat = i + 1 := by omega
       rw [e, rX1 hp.1.1 (by omega)]
       have hl := hz.1.2.2
       exact ⟨(i + 1, o ++ [(rX a i t : Int)]), (by (refine Eo [(1280, 1280)] rfl ?_ ?_ <;> simp only [Me, Sl, AvLe, lk, ↓reduceIte, Nat.reduceEqDiff, Option.isSome_some, and_self, and_true, true_and, reduceCtorEq, List.map_nil, List.map_cons, Option.some.injEq, AV.v.injEq, Value.int.injEq, Value.bool.injEq, AV.rd.injEq, AV.ow.injEq, AV.al.injEq, AV.ref.injEq] <;> omega)), ⟨⟨by dsimp only; omega, .inl (by dsimp only; omega), by simp; omega⟩, lim_app.2 ⟨hz.2.1, lim_one (nat_lim (rX_lt hp.1.1 (by omega)))⟩, right_go hp.1.1 (by omega) hl (by omega) hz.2.2⟩, by dsimp only; omega⟩)
    | skip
theorem sound_69 : Sound Tryz.prog 69 .body (norm s69) := by
  refine sb Tryz.func69 rfl (by kernel_rfl) G69_ok (by kernel_rfl) fun ds p r hs hp => ?_
  unfold s69 at hs
  split at hs
  · cases hs; exact ⟨Nat.le_of_ble_eq_true (by kernel_rfl), wk69 _ _ hp⟩
  · cases hs
noncomputable def s86 : Cs := fun ds => match ds with
  | [.sl .u64 a, .sl .u64 b] => some (((lim a ∧ a.length ≤ 50000000) ∧ lim b ∧ b.length ≤ 50000000) ∧ val b ≤ val a, .one (.fresh .u64 (limbs (val a - val b))))
  | _ => none
theorem s86_eq (a : List Int) (b : List Int) : norm s86 [.sl .u64 a, .sl .u64 b] = s86 [.sl .u64 a, .sl .u64 b] := rfl
theorem s86_nil1  (b : List Int) : norm s86 [.v (.slice none 0 0), .sl .u64 b] = s86 [.sl .u64 [], .sl .u64 b] := rfl
theorem s86_nil2 (a : List Int)  : norm s86 [.sl .u64 a, .v (.slice none 0 0)] = s86 [.sl .u64 a, .sl .u64 []] := rfl
theorem s86_nil3   : norm s86 [.v (.slice none 0 0), .v (.slice none 0 0)] = s86 [.sl .u64 [], .sl .u64 []] := rfl
noncomputable def G86 : Gam := [(105, .body, norm s105), (109, .body, norm s109), (153, .ext, sSub64)]
theorem G86_ok : Gk Tryz.prog G86 := Gc sound_105 (Gc sound_109 (Gc ext_153 Gn))
theorem k86_105 : lk G86 105 = some (.body, norm s105) := rfl
theorem k86_109 : lk G86 109 = some (.body, norm s109) := rfl
theorem k86_153 : lk G86 153 = some (.ext, sSub64) := rfl
theorem wk86 (a : List Int) (b : List Int) (hp : ((lim a ∧ a.length ≤ 50000000) ∧ lim b ∧ b.length ≤ 50000000) ∧ val b ≤ val a) : awp ty G86 (code Tryz.f86) (retP ty Tryz.f86.results.toList (.one (.fresh .u64 (limbs (val a - val b))))) (entry 0 [.sl .u64 a, .sl .u64 b]) [] := by
  unfold code
  simp only [Tryz.f86, Option.getD_some]
  obtain ⟨N, hN⟩ : ∃ N, max a.length b.length = N := ⟨_, rfl⟩
  have mE : max (a.length : Int) (b.length : Int) = (N : Int) := by omega
  have mT : ((N : Int)).toNat = N := Int.toNat_natCast N
  all_goals repeat' (first
 | ((with_reducible first | (refine ZA ?_; intro X hX) | (show awp _ _ _ _ (Kp _ _) _) | refine ZD ?_ | refine ZE ?_ | refine ZF ?_ | ((show Bg _ _ _ _ _); simp only [hall]) | (refine ZR ?_ ?_ <;> intro hb <;> (try simp only [hb]) <;> have hq := hb <;> try simp only [HQ] at hq)) <;> try simp only [Go.AM.SS, Nat.reduceAdd, Nat.reduceMul, Nat.reduceSub, ↓reduceIte, Nat.reduceEqDiff, Nat.reduceLT, Nat.reduceLeDiff, reduceCtorEq, Int.reduceBEq, Int.reduceBNe, Nat.reduceBEq, Int.reduceEq, Int.reduceToNat, Int.reduceLE, Int.reduceLT, Nat.reduceDiv, Int.reduceAdd, Int.reduceSub, Int.reduceMul, Int.reduceNeg, Int.reduceGT, Int.reduceGE, Nat.reduceMod, k86_105, s105.eq_1, s105_eq, s105_nil1, k86_109, s109.eq_1, s109_eq, s109_nil1, k86_153, sSub64_eq, ty_3, ty_22, ty_50, mE, mT, List.length_replicate])
 | with_reducible first
 | (refine hX _ _ ?_; clear hX X)
 | (refine ZG ?_; try clear hall all)
 | (refine hK _ _ ?_; clear hK K)
 | refine ZL ?_
 | (refine v_0 _ _ ?_; try clear v_0 V_0)
 | (refine v_1 _ _ ?_; try clear v_1 V_1)
 | (refine v_2 _ _ ?_; try clear v_2 V_2)
    | (with_reducible refine awp_lp (σ := Nat × Nat × List Int) (fun s => (s.1 ≤ N ∧ s.2.1 ≤ 1 ∧ s.2.2.length = N) ∧ lim s.2.2 ∧ val (s.2.2.take s.1) + val (b.take s.1) = val (a.take s.1) + s.2.1 * 2 ^ (64 * s.1)) (fun s => [(0, .rd .u64 a), (1, .rd .u64 b), (5, .ow 208), (6, .v (.int .u64 s.2.1)), (15, .v (.int .i64 N)), (16, .v (.int .i64 s.1))]) (fun s => [(208, .ints .u64 s.2.2, false)]) (fun s => N - s.1) (0, 0, List.replicate N 0) ?_ ?_ (fun s hs => ?_))
 | ((first | refine qr 8 [4] ?_ | refine Zh (a := .seq (.region 3 _ _) _) [5] ?_ | refine qr 2 [0,1,5,6] ?_ | refine qr 1 [0,1,5] ?_ | refine qr 0 [0,1] ?_); intro V_0 v_0)
 | ((first | refine qb 1 [0,1,5,6,15,16] ?_ | refine Zh (a := .cond (.tmp 17) _ _) [0,1,5,6,15,16] ?_ | refine qr 4 [0,1,5,6,15,16,17] ?_ | refine qr 3 [0,1,5,6,15,16] ?_); intro V_1 v_1)
 | ((first | refine qr 5 [0,1,5,6,7,15,16] ?_); intro V_2 v_2)
 | (refine ZM ?_; intro K hK)
 | (refine ZN ?_; intro all hall K hK)
 | (refine ZQ ?_ ?_)
 | (refine Zg ?_; simp only [↓reduceIte, Nat.reduceEqDiff])
 | refine ZS ?_ | refine ZT ?_ | refine ZU ?_ | refine ZV ?_ | refine ZW ?_ | refine ZX ?_ | refine ZY ?_ | refine ZZ ?_ | refine Za ?_ | refine Ze ?_ | refine Zf ?_)
  all_goals try clear v_2 V_2
  all_goals try clear v_1 V_1
  all_goals try clear v_0 V_0
  all_goals clear mE mT
  all_goals (try (rcases s with ⟨i, c, o⟩))
  all_goals (try (obtain ⟨ss, hs⟩ := hs))
  all_goals (try dsimp only at *)
  all_goals (try simp only [inR])
  all_goals (try omega)
  · exact ⟨⟨Nat.zero_le _, by omega, by simp⟩, lim_rep _, by simp [val]⟩
  · exact Ent.refl _ _
  · have h1 := Mg hp.1.1.1 (i := i)
    have h2 := Mg hp.1.2.1 (i := i)
    omega
  · obtain ⟨c', s', e1, e2, e3, e4, e5⟩ := less_step hp.1.1.1 hp.1.2.1 (show c ≤ 1 by omega) (show i < o.length by omega) hs.2
    rw [e1, e2]
    exact ⟨(i + 1, c', o.set i (s' : Int)), (by (refine Eo [(208, 208)] rfl ?_ ?_ <;> simp only [Me, Sl, AvLe, lk, ↓reduceIte, Nat.reduceEqDiff, Option.isSome_some, and_self, and_true, true_and, reduceCtorEq, List.map_nil, List.map_cons, Option.some.injEq, AV.v.injEq, Value.int.injEq, Value.bool.injEq, AV.rd.injEq, AV.ow.injEq, AV.al.injEq, AV.ref.injEq] <;> omega)), ⟨⟨by dsimp only; omega, e3, by simp; omega⟩, lim_set hs.1 (nat_lim e4) _, e5⟩, by dsimp only; omega⟩
  · exact ⟨hs.1, by omega⟩
  · have hi : i = N := by omega
    subst hi
    rw [less_fin hp.1.1.1 hp.1.2.1 hs.1 (by omega) (by omega) (by omega) hp.2 hs.2]
theorem sound_86 : Sound Tryz.prog 86 .body (norm s86) := by
  refine sb Tryz.func86 rfl (by kernel_rfl) G86_ok (by kernel_rfl) fun ds p r hs hp => ?_
  unfold s86 at hs
  split at hs
  · cases hs; exact ⟨Nat.le_of_ble_eq_true (by kernel_rfl), wk86 _ _ hp⟩
  · cases hs
noncomputable def s68 : Cs := fun ds => match ds with
  | [.v (.agg ⟨[.int .u64 b0, .int .u64 b1, .int .u64 b2, .int .u64 b3]⟩), .v (.int .i64 p), .v (.int .i64 n)] => some (((0 ≤ b0 ∧ b0 < 18446744073709551616) ∧ (0 ≤ b1 ∧ b1 < 18446744073709551616) ∧ (0 ≤ b2 ∧ b2 < 18446744073709551616) ∧ (0 ≤ b3 ∧ b3 < 18446744073709551616)) ∧ (0 ≤ p ∧ p ≤ 256) ∧ 0 ≤ n ∧ n ≤ 256, .one (.fresh .u64 (limbs ((V4 b0 b1 b2 b3) / 2 ^ p.toNat % 2 ^ n.toNat))))
  | _ => none
theorem s68_eq (b0 b1 b2 b3 : Int) (p : Int) (n : Int) : norm s68 [.v (.agg #[.int .u64 b0, .int .u64 b1, .int .u64 b2, .int .u64 b3]), .v (.int .i64 p), .v (.int .i64 n)] = s68 [.v (.agg #[.int .u64 b0, .int .u64 b1, .int .u64 b2, .int .u64 b3]), .v (.int .i64 p), .v (.int .i64 n)] := rfl
noncomputable def G68 : Gam := [(39, .body, norm s39), (69, .body, norm s69), (86, .body, norm s86)]
theorem G68_ok : Gk Tryz.prog G68 := Gc sound_39 (Gc sound_69 (Gc sound_86 Gn))
theorem k68_39 : lk G68 39 = some (.body, norm s39) := rfl
theorem k68_69 : lk G68 69 = some (.body, norm s69) := rfl
theorem k68_86 : lk G68 86 = some (.body, norm s86) := rfl
theorem wk68 (b0 b1 b2 b3 : Int) (p : Int) (n : Int) (hp : ((0 ≤ b0 ∧ b0 < 18446744073709551616) ∧ (0 ≤ b1 ∧ b1 < 18446744073709551616) ∧ (0 ≤ b2 ∧ b2 < 18446744073709551616) ∧ (0 ≤ b3 ∧ b3 < 18446744073709551616)) ∧ (0 ≤ p ∧ p ≤ 256) ∧ 0 ≤ n ∧ n ≤ 256) : awp ty G68 (code Tryz.f68) (retP ty Tryz.f68.results.toList (.one (.fresh .u64 (limbs ((V4 b0 b1 b2 b3) / 2 ^ p.toNat % 2 ^ n.toNat))))) (entry 0 [.v (.agg #[.int .u64 b0, .int .u64 b1, .int .u64 b2, .int .u64 b3]), .v (.int .i64 p), .v (.int .i64 n)]) [] := by
  unfold code
  simp only [Tryz.f68, Option.getD_some]
  have hV : val [b0, b1, b2, b3] = (V4 b0 b1 b2 b3) := rfl
  have l4 := lim4 hp.1.1 hp.1.2.1 hp.1.2.2.1 hp.1.2.2.2
  have vl : (V4 b0 b1 b2 b3) < 2 ^ 256 := V4_lt hp.1.1 hp.1.2.1 hp.1.2.2.1 hp.1.2.2.2
  all_goals repeat' (first
 | ((with_reducible first | (refine ZA ?_; intro X hX) | (show awp _ _ _ _ (Kp _ _) _) | refine ZD ?_ | refine ZE ?_ | refine ZF ?_ | ((show Bg _ _ _ _ _); simp only [hall]) | (refine ZR ?_ ?_ <;> intro hb <;> (try simp only [hb]) <;> have hq := hb <;> try simp only [HQ] at hq)) <;> try simp only [Go.AM.SS, Nat.reduceAdd, Nat.reduceMul, Nat.reduceSub, ↓reduceIte, Nat.reduceEqDiff, Nat.reduceLT, Nat.reduceLeDiff, reduceCtorEq, Int.reduceBEq, Int.reduceBNe, Nat.reduceBEq, Int.reduceEq, Int.reduceToNat, Int.reduceLE, Int.reduceLT, Nat.reduceDiv, Int.reduceAdd, Int.reduceSub, Int.reduceMul, Int.reduceNeg, Int.reduceGT, Int.reduceGE, Nat.reduceMod, k68_39, s39.eq_1, s39_eq, s39_nil1, k68_69, s69.eq_1, s69_eq, s69_nil1, k68_86, s86.eq_1, s86_eq, s86_nil1, s86_nil2, s86_nil3, ty_3, ty_22, ty_24, ty_50, hV, Vl, toInts])
 | with_reducible first
 | (refine hX _ _ ?_; clear hX X)
 | (refine ZG ?_; try clear hall all)
 | (refine hK _ _ ?_; clear hK K)
 | refine ZL ?_
 | (refine v_0 _ _ ?_; try clear v_0 V_0)
 | ((first | refine qr 3 [6] ?_ | refine qr 2 [2,7,9] ?_ | refine qr 1 [2,7] ?_ | refine qr 0 [1,2,3] ?_); intro V_0 v_0)
 | (refine ZM ?_; intro K hK)
 | (refine ZN ?_; intro all hall K hK)
 | (refine ZQ ?_ ?_)
 | refine ZT ?_ | refine ZU ?_ | refine ZW ?_)
  all_goals try clear v_0 V_0
  all_goals (have x4 := len4 (Nat.lt_of_le_of_lt (Nat.div_le_self (V4 b0 b1 b2 b3) (2 ^ p.toNat)) vl))
  all_goals generalize (V4 b0 b1 b2 b3) / 2 ^ p.toNat = X at *
  all_goals (have y4 := Nat.le_trans (len_mono (Nat.div_le_self X (2 ^ n.toNat))) x4)
  all_goals (obtain ⟨ms, md⟩ := @mod_sub X (2 ^ n.toNat))
  all_goals (have z4 := Nat.le_trans (len_mono ms) x4)
  · exact ⟨l4, by omega, by omega⟩
  · exact ⟨⟨Ml _, by omega⟩, by omega, by omega⟩
  · exact ⟨⟨Ml _, by omega⟩, by omega, by omega⟩
  · exact ⟨⟨⟨Ml _, by omega⟩, Ml _, by omega⟩, ms⟩
  · rw [md]
theorem sound_68 : Sound Tryz.prog 68 .body (norm s68) := by
  refine sb Tryz.func68 rfl (by kernel_rfl) G68_ok (by kernel_rfl) fun ds p r hs hp => ?_
  unfold s68 at hs
  split at hs
  · cases hs; exact ⟨Nat.le_of_ble_eq_true (by kernel_rfl), wk68 _ _ _ _ _ _ hp⟩
  · cases hs
noncomputable def s48 : Cs := fun ds => match ds with
  | [.sl .u64 a] => some (True, .one (.v (.agg #[.int .u64 (a.getD 0 0), .int .u64 (a.getD 1 0), .int .u64 (a.getD 2 0), .int .u64 (a.getD 3 0)])))
  | _ => none
theorem s48_eq (a : List Int) : norm s48 [.sl .u64 a] = s48 [.sl .u64 a] := rfl
theorem s48_nil1  : norm s48 [.v (.slice none 0 0)] = s48 [.sl .u64 []] := rfl
noncomputable def G48 : Gam := [(109, .body, norm s109)]
theorem G48_ok : Gk Tryz.prog G48 := Gc sound_109 Gn
theorem k48_109 : lk G48 109 = some (.body, norm s109) := rfl
theorem wk48 (a : List Int) (hp : True) : awp ty G48 (code Tryz.f48) (retP ty Tryz.f48.results.toList (.one (.v (.agg #[.int .u64 (a.getD 0 0), .int .u64 (a.getD 1 0), .int .u64 (a.getD 2 0), .int .u64 (a.getD 3 0)])))) (entry 0 [.sl .u64 a]) [] := by
  unfold code
  simp only [Tryz.f48, Option.getD_some]
  all_goals repeat' (first
 | ((with_reducible first | (refine ZA ?_; intro X hX) | (show awp _ _ _ _ (Kp _ _) _) | refine ZD ?_ | refine ZE ?_ | refine ZF ?_ | ((show Bg _ _ _ _ _); simp only [hall]) | (refine ZR ?_ ?_ <;> intro hb <;> (try simp only [hb]) <;> have hq := hb <;> try simp only [HQ] at hq)) <;> try simp only [Go.AM.SS, Nat.reduceAdd, Nat.reduceMul, Nat.reduceSub, ↓reduceIte, Nat.reduceEqDiff, Nat.reduceLT, Nat.reduceLeDiff, reduceCtorEq, Int.reduceBEq, Int.reduceBNe, Nat.reduceBEq, Int.reduceEq, Int.reduceToNat, Int.reduceLE, Int.reduceLT, Nat.reduceDiv, Int.reduceAdd, Int.reduceSub, Int.reduceMul, Int.reduceNeg, Int.reduceGT, Int.reduceGE, Nat.reduceMod, k48_109, s109.eq_1, s109_eq, s109_nil1, ty_3, ty_22, ty_24, ty_50])
 | with_reducible first
 | (refine hX _ _ ?_; clear hX X)
 | (refine ZG ?_; try clear hall all)
 | (refine hK _ _ ?_; clear hK K)
 | refine ZL ?_
 | (refine v_0 _ _ ?_; try clear v_0 V_0)
 | (refine v_1 _ _ ?_; try clear v_1 V_1)
 | (refine v_2 _ _ ?_; try clear v_2 V_2)
    | (with_reducible refine awp_unroll (Nat.succ (Nat.succ (Nat.succ (Nat.succ (Nat.succ Nat.zero))))) ?_)
 | ((first | refine qr 7 [2] ?_ | refine Zh (a := .seq (.region 2 _ _) _) [2,3] ?_ | refine qr 1 [0,2,3] ?_ | refine qr 0 [0,2] ?_); intro V_0 v_0)
 | ((first | refine qb 1 [0,2,3,5] ?_ | refine Zh (a := .cond (.tmp 6) _ _) [0,2,3,5] ?_ | refine qr 3 [0,2,3,5,6] ?_ | refine qr 2 [0,2,3,5] ?_); intro V_1 v_1)
 | ((first | refine qr 4 [0,2,3,4,5] ?_); intro V_2 v_2)
 | (refine ZM ?_; intro K hK)
 | (refine ZN ?_; intro all hall K hK)
 | (refine ZQ ?_ ?_)
 | (refine Zg ?_; simp only [↓reduceIte, Nat.reduceEqDiff])
 | refine ZS ?_ | refine ZT ?_ | refine ZU ?_ | refine ZV ?_ | refine ZW ?_ | refine ZX ?_ | refine ZY ?_ | refine ZZ ?_ | refine Za ?_ | refine Zb ?_ | refine Zc ?_ | refine Zd ?_ | refine Ze ?_ | refine Zf ?_)
  all_goals try clear v_2 V_2
  all_goals try clear v_1 V_1
  all_goals try clear v_0 V_0
  all_goals (try simp only [inR])
  all_goals first
    | omega
    | rfl
    | skip
theorem sound_48 : Sound Tryz.prog 48 .body (norm s48) := by
  refine sb Tryz.func48 rfl (by kernel_rfl) G48_ok (by kernel_rfl) fun ds p r hs hp => ?_
  unfold s48 at hs
  split at hs
  · cases hs; exact ⟨Nat.le_of_ble_eq_true (by kernel_rfl), wk48 _ hp⟩
  · cases hs
noncomputable def s60 : Cs := fun ds => match ds with
  | [.sl .u64 a, .sl .u64 b] => some ((lim a ∧ a.length ≤ 50000000) ∧ lim b ∧ b.length ≤ 50000000, .one (.fresh .u64 (limbs (val a + val b))))
  | _ => none
theorem s60_eq (a : List Int) (b : List Int) : norm s60 [.sl .u64 a, .sl .u64 b] = s60 [.sl .u64 a, .sl .u64 b] := rfl
theorem s60_nil1  (b : List Int) : norm s60 [.v (.slice none 0 0), .sl .u64 b] = s60 [.sl .u64 [], .sl .u64 b] := rfl
theorem s60_nil2 (a : List Int)  : norm s60 [.sl .u64 a, .v (.slice none 0 0)] = s60 [.sl .u64 a, .sl .u64 []] := rfl
theorem s60_nil3   : norm s60 [.v (.slice none 0 0), .v (.slice none 0 0)] = s60 [.sl .u64 [], .sl .u64 []] := rfl
noncomputable def G60 : Gam := [(105, .body, norm s105), (107, .ext, sAdd64), (109, .body, norm s109)]
theorem G60_ok : Gk Tryz.prog G60 := Gc sound_105 (Gc ext_107 (Gc sound_109 Gn))
theorem k60_105 : lk G60 105 = some (.body, norm s105) := rfl
theorem k60_107 : lk G60 107 = some (.ext, sAdd64) := rfl
theorem k60_109 : lk G60 109 = some (.body, norm s109) := rfl
theorem wk60 (a : List Int) (b : List Int) (hp : (lim a ∧ a.length ≤ 50000000) ∧ lim b ∧ b.length ≤ 50000000) : awp ty G60 (code Tryz.f60) (retP ty Tryz.f60.results.toList (.one (.fresh .u64 (limbs (val a + val b))))) (entry 0 [.sl .u64 a, .sl .u64 b]) [] := by
  unfold code
  simp only [Tryz.f60, Option.getD_some]
  obtain ⟨N, hN⟩ : ∃ N, max a.length b.length + 1 = N := ⟨_, rfl⟩
  have mE : max (a.length : Int) (b.length : Int) + 1 = (N : Int) := by omega
  have mT : ((N : Int)).toNat = N := Int.toNat_natCast N
  all_goals repeat' (first
 | ((with_reducible first | (refine ZA ?_; intro X hX) | (show awp _ _ _ _ (Kp _ _) _) | refine ZD ?_ | refine ZE ?_ | refine ZF ?_ | ((show Bg _ _ _ _ _); simp only [hall]) | (refine ZR ?_ ?_ <;> intro hb <;> (try simp only [hb]) <;> have hq := hb <;> try simp only [HQ] at hq)) <;> try simp only [Go.AM.SS, Nat.reduceAdd, Nat.reduceMul, Nat.reduceSub, ↓reduceIte, Nat.reduceEqDiff, Nat.reduceLT, Nat.reduceLeDiff, reduceCtorEq, Int.reduceBEq, Int.reduceBNe, Nat.reduceBEq, Int.reduceEq, Int.reduceToNat, Int.reduceLE, Int.reduceLT, Nat.reduceDiv, Int.reduceAdd, Int.reduceSub, Int.reduceMul, Int.reduceNeg, Int.reduceGT, Int.reduceGE, Nat.reduceMod, k60_105, s105.eq_1, s105_eq, s105_nil1, k60_107, sAdd64_eq, k60_109, s109.eq_1, s109_eq, s109_nil1, ty_3, ty_22, ty_50, mE, mT, List.length_replicate])
 | with_reducible first
 | (refine hX _ _ ?_; clear hX X)
 | (refine ZG ?_; try clear hall all)
 | (refine hK _ _ ?_; clear hK K)
 | refine ZL ?_
 | (refine v_0 _ _ ?_; try clear v_0 V_0)
 | (refine v_1 _ _ ?_; try clear v_1 V_1)
 | (refine v_2 _ _ ?_; try clear v_2 V_2)
    | (with_reducible refine awp_lp (σ := Nat × Nat × List Int) (fun s => (s.1 ≤ N ∧ s.2.1 ≤ 1 ∧ s.2.2.length = N) ∧ lim s.2.2 ∧ val (s.2.2.take s.1) + s.2.1 * 2 ^ (64 * s.1) = val (a.take s.1) + val (b.take s.1)) (fun s => [(0, .rd .u64 a), (1, .rd .u64 b), (5, .ow 224), (6, .v (.int .u64 s.2.1)), (16, .v (.int .i64 N)), (17, .v (.int .i64 s.1))]) (fun s => [(224, .ints .u64 s.2.2, false)]) (fun s => N - s.1) (0, 0, List.replicate N 0) ?_ ?_ (fun s hs => ?_))
 | ((first | refine qr 8 [4] ?_ | refine Zh (a := .seq (.region 3 _ _) _) [5] ?_ | refine qr 2 [0,1,5,6] ?_ | refine qr 1 [0,1,5] ?_ | refine qr 0 [0,1] ?_); intro V_0 v_0)
 | ((first | refine qb 1 [0,1,5,6,16,17] ?_ | refine Zh (a := .cond (.tmp 18) _ _) [0,1,5,6,16,17] ?_ | refine qr 4 [0,1,5,6,16,17,18] ?_ | refine qr 3 [0,1,5,6,16,17] ?_); intro V_1 v_1)
 | ((first | refine qr 5 [0,1,5,6,7,16,17] ?_); intro V_2 v_2)
 | (refine ZM ?_; intro K hK)
 | (refine ZN ?_; intro all hall K hK)
 | (refine ZQ ?_ ?_)
 | (refine Zg ?_; simp only [↓reduceIte, Nat.reduceEqDiff])
 | refine ZS ?_ | refine ZT ?_ | refine ZU ?_ | refine ZV ?_ | refine ZW ?_ | refine ZX ?_ | refine ZY ?_ | refine ZZ ?_ | refine Za ?_ | refine Ze ?_ | refine Zf ?_)
  all_goals try clear v_2 V_2
  all_goals try clear v_1 V_1
  all_goals try clear v_0 V_0
  all_goals clear mE mT
  all_goals (try (rcases s with ⟨i, c, o⟩))
  all_goals (try (obtain ⟨ss, hs⟩ := hs))
  all_goals (try dsimp only at *)
  all_goals (try simp only [inR])
  all_goals (try omega)
  · exact ⟨⟨Nat.zero_le _, by omega, by simp⟩, lim_rep _, by simp [val]⟩
  · exact Ent.refl _ _
  · have h1 := Mg hp.1.1 (i := i)
    have h2 := Mg hp.2.1 (i := i)
    omega
  · obtain ⟨c', s', e1, e2, e3, e4, e5⟩ := add_step' hp.1.1 hp.2.1 (show c ≤ 1 by omega) (show i < o.length by omega) hs.2
    rw [e1, e2]
    exact ⟨(i + 1, c', o.set i (s' : Int)), (by (refine Eo [(224, 224)] rfl ?_ ?_ <;> simp only [Me, Sl, AvLe, lk, ↓reduceIte, Nat.reduceEqDiff, Option.isSome_some, and_self, and_true, true_and, reduceCtorEq, List.map_nil, List.map_cons, Option.some.injEq, AV.v.injEq, Value.int.injEq, Value.bool.injEq, AV.rd.injEq, AV.ow.injEq, AV.al.injEq, AV.ref.injEq] <;> omega)), ⟨⟨by dsimp only; omega, e3, by simp; omega⟩, lim_set hs.1 (nat_lim e4) _, e5⟩, by dsimp only; omega⟩
  · exact ⟨hs.1, by omega⟩
  · have hi : i = N := by omega
    subst hi
    rw [add_fin hp.1.1 hp.2.1 (by omega) (by omega) (by omega) hs.2]
theorem sound_60 : Sound Tryz.prog 60 .body (norm s60) := by
  refine sb Tryz.func60 rfl (by kernel_rfl) G60_ok (by kernel_rfl) fun ds p r hs hp => ?_
  unfold s60 at hs
  split at hs
  · cases hs; exact ⟨Nat.le_of_ble_eq_true (by kernel_rfl), wk60 _ _ hp⟩
  · cases hs
noncomputable def s40 : Cs := fun ds => match ds with
  | [.sl .u64 a, .sl .u64 b] => some ((lim a ∧ a.length ≤ 40000000) ∧ lim b ∧ b.length ≤ 40000000, .one (.fresh .u64 (limbs (val a * val b))))
  | _ => none
theorem s40_eq (a : List Int) (b : List Int) : norm s40 [.sl .u64 a, .sl .u64 b] = s40 [.sl .u64 a, .sl .u64 b] := rfl
theorem s40_nil1  (b : List Int) : norm s40 [.v (.slice none 0 0), .sl .u64 b] = s40 [.sl .u64 [], .sl .u64 b] := rfl
theorem s40_nil2 (a : List Int)  : norm s40 [.sl .u64 a, .v (.slice none 0 0)] = s40 [.sl .u64 a, .sl .u64 []] := rfl
theorem s40_nil3   : norm s40 [.v (.slice none 0 0), .v (.slice none 0 0)] = s40 [.sl .u64 [], .sl .u64 []] := rfl
noncomputable def G40 : Gam := [(105, .body, norm s105), (106, .body, norm s106), (107, .ext, sAdd64)]
theorem G40_ok : Gk Tryz.prog G40 := Gc sound_105 (Gc sound_106 (Gc ext_107 Gn))
theorem k40_105 : lk G40 105 = some (.body, norm s105) := rfl
theorem k40_106 : lk G40 106 = some (.body, norm s106) := rfl
theorem k40_107 : lk G40 107 = some (.ext, sAdd64) := rfl
theorem wk40 (a : List Int) (b : List Int) (hp : (lim a ∧ a.length ≤ 40000000) ∧ lim b ∧ b.length ≤ 40000000) : awp ty G40 (code Tryz.f40) (retP ty Tryz.f40.results.toList (.one (.fresh .u64 (limbs (val a * val b))))) (entry 0 [.sl .u64 a, .sl .u64 b]) [] := by
  unfold code
  simp only [Tryz.f40, Option.getD_some]
  obtain ⟨N, hN⟩ : ∃ N, a.length + b.length + 1 = N := ⟨_, rfl⟩
  have lenE : ((a.length : Int) + (b.length : Int) + 1).toNat = N := by omega
  all_goals repeat' (first
 | ((with_reducible first | (refine ZA ?_; intro X hX) | (refine ZB ?_; intro X hX) | (show awp _ _ _ _ (Kp _ _) _) | refine ZD ?_ | refine ZE ?_ | refine ZF ?_ | ((show Bg _ _ _ _ _); simp only [hall]) | (refine ZR ?_ ?_ <;> intro hb <;> (try simp only [hb]) <;> have hq := hb <;> try simp only [HQ] at hq)) <;> try simp only [Go.AM.SS, Nat.reduceAdd, Nat.reduceMul, Nat.reduceSub, ↓reduceIte, Nat.reduceEqDiff, Nat.reduceLT, Nat.reduceLeDiff, reduceCtorEq, Int.reduceBEq, Int.reduceBNe, Nat.reduceBEq, Int.reduceEq, Int.reduceToNat, Int.reduceLE, Int.reduceLT, Nat.reduceDiv, Int.reduceAdd, Int.reduceSub, Int.reduceMul, Int.reduceNeg, Int.reduceGT, Int.reduceGE, Nat.reduceMod, k40_105, s105.eq_1, s105_eq, s105_nil1, k40_106, s106.eq_1, s106_eq, k40_107, sAdd64_eq, ty_3, ty_22, ty_50, List.length_replicate, lenE])
 | with_reducible first
 | (refine hX _ _ ?_; clear hX X)
 | (refine ZG ?_; try clear hall all)
 | (refine ZH ?_; try clear hall all)
 | (refine hK _ _ ?_; clear hK K)
 | refine ZL ?_
 | (refine v_0 _ _ ?_; try clear v_0 V_0)
 | (refine v_1 _ _ ?_; try clear v_1 V_1)
 | (refine v_2 _ _ ?_; try clear v_2 V_2)
 | (refine v_3 _ _ ?_; try clear v_3 V_3)
 | (refine v_4 _ _ ?_; try clear v_4 V_4)
    | (with_reducible refine awp_lp (c := .seq (.region 3 _ _) _) (σ := Nat × List Int) (fun s => (s.1 ≤ a.length ∧ s.2.length = N) ∧ lim s.2 ∧ val s.2 = val (a.take s.1) * val b) (fun s => [(0, .rd .u64 a), (1, .rd .u64 b), (5, .ow 304), (21, .v (.int .i64 a.length)), (22, .v (.int .i64 s.1))]) (fun s => [(304, .ints .u64 s.2, false)]) (fun s => a.length - s.1) (0, List.replicate N 0) ?_ ?_ (fun s hs => ?_))
    | (with_reducible refine awp_lp (c := .seq (.region 7 _ _) _) (σ := Nat × Nat × List Int) (fun z => (z.1 ≤ b.length ∧ z.2.1 < 18446744073709551616 ∧ z.2.2.length = N) ∧ lim z.2.2 ∧ z.2.2.getD (s.1 + b.length) 0 = 0 ∧ val z.2.2 + z.2.1 * 2 ^ (64 * (s.1 + z.1)) = val (a.take s.1) * val b + (a.getD s.1 0).toNat * 2 ^ (64 * s.1) * val (b.take z.1)) (fun z => [(0, .rd .u64 a), (1, .rd .u64 b), (5, .ow 304), (6, .v (.int .i64 s.1)), (7, .v (.int .u64 z.2.1)), (21, .v (.int .i64 a.length)), (22, .v (.int .i64 s.1)), (26, .v (.int .i64 b.length)), (27, .v (.int .i64 z.1))]) (fun z => [(304, .ints .u64 z.2.2, false)]) (fun z => b.length - z.1) (0, 0, s.2) ?_ ?_ (fun z hz => ?_))
 | ((first | refine qr 18 [4] ?_ | refine Zh (a := .seq (.region 2 _ _) _) [5] ?_ | refine qr 1 [0,1,5] ?_ | refine qr 0 [0,1] ?_); intro V_0 v_0)
 | ((first | refine qb 1 [0,1,5,21,22] ?_ | refine Zh (a := .cond (.tmp 23) _ _) [0,1,5,21,22] ?_ | refine qr 3 [0,1,5,21,22,23] ?_ | refine qr 2 [0,1,5,21,22] ?_); intro V_1 v_1)
 | ((first | refine Zh (a := .seq (.region 6 _ _) _) [0,1,5,6,7,21,22] ?_ | refine qr 5 [0,1,5,6,7,21,22] ?_ | refine qr 4 [0,1,5,6,21,22] ?_); intro V_2 v_2)
 | ((first | refine qb 3 [0,1,5,6,7,21,22,26,27] ?_ | refine Zh (a := .cond (.tmp 28) _ _) [0,1,5,6,7,21,22,26,27] ?_ | refine qr 7 [0,1,5,6,7,21,22,26,27,28] ?_ | refine qr 6 [0,1,5,6,7,21,22,26,27] ?_); intro V_3 v_3)
 | ((first | refine qr 13 [0,1,5,6,8,9,11,21,22,26,27] ?_ | refine qr 12 [0,1,5,6,8,9,11,12,21,22,26,27] ?_ | refine qr 11 [0,1,5,6,7,8,9,11,21,22,26,27] ?_ | refine qr 10 [0,1,5,6,7,8,9,11,12,21,22,26,27] ?_ | refine qr 9 [0,1,5,6,7,8,9,10,21,22,26,27] ?_ | refine qr 8 [0,1,5,6,7,8,21,22,26,27] ?_); intro V_4 v_4)
 | (refine ZM ?_; intro K hK)
 | (refine ZN ?_; intro all hall K hK)
 | (refine ZO ?_ ?_; kernel_rfl; intro all hall K hK)
 | (refine ZQ ?_ ?_)
 | (refine ZK ?_; kernel_rfl)
 | (refine Zg ?_; simp only [↓reduceIte, Nat.reduceEqDiff])
 | refine ZS ?_ | refine ZT ?_ | refine ZU ?_ | refine ZV ?_ | refine ZW ?_ | refine ZX ?_ | refine ZY ?_ | refine ZZ ?_ | refine Za ?_ | refine Ze ?_ | refine Zf ?_)
  all_goals try clear v_4 V_4
  all_goals try clear v_3 V_3
  all_goals try clear v_2 V_2
  all_goals try clear v_1 V_1
  all_goals try clear v_0 V_0
  all_goals clear lenE
  all_goals (try simp only [inR])
  all_goals (try (rcases z with ⟨k, c, o2⟩))
  all_goals (try (rcases s with ⟨i, o⟩))
  all_goals (try (obtain ⟨zz, hz⟩ := hz))
  all_goals (try (obtain ⟨ss, hs⟩ := hs))
  all_goals (try dsimp only at *)
  all_goals (try omega)
  · exact ⟨⟨Nat.zero_le _, by simp⟩, lim_rep _, by simp [val_rep, val]⟩
  · exact Ent.refl _ _
  · exact ⟨⟨Nat.zero_le _, by omega, by omega⟩, hs.1, getD_zero_of_lt hs.1 (by rw [hs.2]; exact prod_lt hp.1.1 hp.2.1 i), by rw [hs.2]; simp [val]⟩
  · exact Ent.refl _ _
  · exact ⟨Mg hp.1.1, Mg hp.2.1⟩
  · have e : ((i : Int) + (k : Int)).toNat = i + k := by omega
    have h1 := Mg hz.1 (i := i + k)
    rw [e]
    omega
  · have e : ((i : Int) + (k : Int)).toNat = i + k := by omega
    have h1 := Mg hz.1 (i := i + k)
    rw [e]
    have h2 := Mg hp.1.1 (i := i)
    have h3 := Mg hp.2.1 (i := k)
    obtain ⟨c', s', e1, e2, e3, e4, e5⟩ := mul_word' (prod_le (x := (a.getD i 0).toNat) (y := (b.getD k 0).toNat) (by omega) (by omega)) (c := (c : Int)) ⟨by omega, by omega⟩ h1
    rw [e1, e2]
    rw [Int.toNat_natCast] at e3
    exact ⟨(k + 1, c', o2.set (i + k) (s' : Int)), (by (refine Eo [(304, 304)] rfl ?_ ?_ <;> simp only [Me, Sl, AvLe, lk, ↓reduceIte, Nat.reduceEqDiff, Option.isSome_some, and_self, and_true, true_and, reduceCtorEq, List.map_nil, List.map_cons, Option.some.injEq, AV.v.injEq, Value.int.injEq, Value.bool.injEq, AV.rd.injEq, AV.ow.injEq, AV.al.injEq, AV.ref.injEq] <;> omega)), ⟨⟨by dsimp only; omega, e4, by simp; omega⟩, lim_set hz.1 (nat_lim e5) _, by rw [getD_set_other (by omega)]; exact hz.2.1, mul_step (by omega) hz.2.2 e3⟩, by dsimp only; omega⟩
  · have e : ((i : Int) + (b.length : Int)).toNat = i + b.length := by omega
    rw [e]
    have hk : k = b.length := by omega
    have h5 := hz.2.2
    rw [hk, List.take_length] at h5
    exact ⟨(i + 1, o2.set (i + b.length) (c : Int)), (by (refine Eo [(304, 304)] rfl ?_ ?_ <;> simp only [Me, Sl, AvLe, lk, ↓reduceIte, Nat.reduceEqDiff, Option.isSome_some, and_self, and_true, true_and, reduceCtorEq, List.map_nil, List.map_cons, Option.some.injEq, AV.v.injEq, Value.int.injEq, Value.bool.injEq, AV.rd.injEq, AV.ow.injEq, AV.al.injEq, AV.ref.injEq] <;> omega)), ⟨⟨by dsimp only; omega, by simp; omega⟩, lim_set hz.1 (nat_lim (by omega)) _, mul_row (by omega) hz.2.1 h5⟩, by dsimp only; omega⟩
  · exact ⟨hs.1, by omega⟩
  · have hi : i = a.length := by omega
    rw [hs.2, hi, List.take_length]
theorem sound_40 : Sound Tryz.prog 40 .body (norm s40) := by
  refine sb Tryz.func40 rfl (by kernel_rfl) G40_ok (by kernel_rfl) fun ds p r hs hp => ?_
  unfold s40 at hs
  split at hs
  · cases hs; exact ⟨Nat.le_of_ble_eq_true (by kernel_rfl), wk40 _ _ hp⟩
  · cases hs
noncomputable def s41 : Cs := fun ds => match ds with
  | [.v (.int .u64 b), .v (.int .i64 n)] => some ((0 < b ∧ b < 18446744073709551616) ∧ 0 ≤ n ∧ n ≤ 1000000, .one (.view .u64 (limbs (b.toNat ^ n.toNat))))
  | _ => none
theorem s41_eq (b : Int) (n : Int) : norm s41 [.v (.int .u64 b), .v (.int .i64 n)] = s41 [.v (.int .u64 b), .v (.int .i64 n)] := rfl
noncomputable def G41 : Gam := [(40, .body, norm s40)]
theorem G41_ok : Gk Tryz.prog G41 := Gc sound_40 Gn
theorem k41_40 : lk G41 40 = some (.body, norm s40) := rfl
theorem wk41 (b : Int) (n : Int) (hp : (0 < b ∧ b < 18446744073709551616) ∧ 0 ≤ n ∧ n ≤ 1000000) : awp ty G41 (code Tryz.f41) (retP ty Tryz.f41.results.toList (.one (.view .u64 (limbs (b.toNat ^ n.toNat))))) (entry 0 [.v (.int .u64 b), .v (.int .i64 n)]) [] := by
  unfold code
  simp only [Tryz.f41, Option.getD_some]
  obtain ⟨B, rfl⟩ := Int.eq_ofNat_of_zero_le (show 0 ≤ b by omega)
  obtain ⟨N, rfl⟩ := Int.eq_ofNat_of_zero_le hp.2.1
  have hmr : ∀ m : Nat, (m : Int).tmod 2 = ((m % 2 : Nat) : Int) := fun m => by rw [Int.tmod_eq_emod_of_nonneg (by omega)]; omega
  have hmq : ∀ m : Nat, (m : Int).tdiv 2 = ((m / 2 : Nat) : Int) := fun m => by rw [Int.tdiv_eq_ediv_of_nonneg (by omega)]; omega
  have l1 : limbs 1 = [1] := limbs_of_lt (by omega) (by omega)
  have lb : limbs B = [(B : Int)] := limbs_of_lt (by omega) (by omega)
  have hBN : 0 < B ^ N := Nat.pow_pos (by omega)
  have hlen := pw_len (b := B) (n := N) (by omega)
  have e1 : ((B : Int)).toNat = B := Int.toNat_natCast B
  have e2 : ((N : Int)).toNat = N := Int.toNat_natCast N
  all_goals repeat' (first
 | ((with_reducible first | (refine ZA ?_; intro X hX) | (show awp _ _ _ _ (Kp _ _) _) | refine ZD ?_ | refine ZE ?_ | refine ZF ?_ | ((show Bg _ _ _ _ _); simp only [hall]) | (refine ZR ?_ ?_ <;> intro hb <;> (try simp only [hb]) <;> have hq := hb <;> try simp only [HQ] at hq)) <;> try simp only [Go.AM.SS, Nat.reduceAdd, Nat.reduceMul, Nat.reduceSub, ↓reduceIte, Nat.reduceEqDiff, Nat.reduceLT, Nat.reduceLeDiff, reduceCtorEq, Int.reduceBEq, Int.reduceBNe, Nat.reduceBEq, Int.reduceEq, Int.reduceToNat, Int.reduceLE, Int.reduceLT, Nat.reduceDiv, Int.reduceAdd, Int.reduceSub, Int.reduceMul, Int.reduceNeg, Int.reduceGT, Int.reduceGE, Nat.reduceMod, k41_40, s40.eq_1, s40_eq, s40_nil1, s40_nil2, s40_nil3, ty_3, ty_22, ty_50, toInts, hmr, hmq, Vl])
 | with_reducible first
 | (refine hX _ _ ?_; clear hX X)
 | (refine ZG ?_; try clear hall all)
 | (refine hK _ _ ?_; clear hK K)
 | refine ZL ?_
 | (refine v_0 _ _ ?_; try clear v_0 V_0)
 | (refine v_1 _ _ ?_; try clear v_1 V_1)
 | (refine v_2 _ _ ?_; try clear v_2 V_2)
    | (with_reducible refine awp_lp (c := .seq (.seq (.region 2 _ _) _) _) (σ := Nat × Nat × Nat) (fun s => s.1 ≤ N ∧ s.2.1 * s.2.2 ^ s.1 = B ^ N) (fun s => [(1, .v (.int .i64 s.1)), (5, .rd .u64 (limbs s.2.1)), (6, .rd .u64 (limbs s.2.2))]) (fun s => []) (fun s => s.1) (N, 1, B) ?_ ?_ (fun s hs => ?_))
 | ((first | refine qr 8 [4] ?_ | refine qb 0 [5] ?_ | refine qr 1 [1,5,6] ?_ | refine qr 0 [0,1] ?_); intro V_0 v_0)
 | ((first | refine qr 6 [1,5,6,21] ?_ | refine qr 5 [1,5,6] ?_ | refine Zh (a := .seq (.region 3 _ _) _) [1,5,6] ?_ | refine Zh (a := .seq (.region 2 _ _) _) [1,5,6] ?_); intro V_1 v_1)
 | ((first | refine qr 3 [1,5,6,14] ?_ | refine qr 2 [1,5,6,11] ?_); intro V_2 v_2)
 | (refine ZM ?_; intro K hK)
 | (refine ZN ?_; intro all hall K hK)
 | (refine ZQ ?_ ?_)
 | (refine Zg ?_; simp only [↓reduceIte, Nat.reduceEqDiff])
 | refine ZS ?_ | refine ZT ?_ | refine ZU ?_ | refine ZV ?_ | refine ZW ?_ | refine ZX ?_ | refine ZY ?_ | refine ZZ ?_ | refine Za ?_ | refine Ze ?_ | refine Zf ?_)
  all_goals try clear v_2 V_2
  all_goals try clear v_1 V_1
  all_goals try clear v_0 V_0
  all_goals clear hmr hmq
  all_goals (try simp only [inR])
  all_goals (try (rcases s with ⟨m, x, y⟩))
  all_goals (try dsimp only at *)
  · exact ⟨Nat.le_refl _, by rw [Nat.one_mul]⟩
  · rw [l1, lb]; (refine Eo [] rfl ?_ ?_ <;> simp only [Me, Sl, AvLe, lk, ↓reduceIte, Nat.reduceEqDiff, Option.isSome_some, List.contains_cons, List.contains_nil, Bool.or_false, Nat.reduceBEq, and_self, and_true, true_and, reduceCtorEq, List.map_nil, List.map_cons, Option.some.injEq, AV.v.injEq, Value.int.injEq, Value.bool.injEq, AV.rd.injEq, AV.ow.injEq, AV.al.injEq, AV.ref.injEq] <;> (first | omega | (refine ⟨?_, ?_, ?_⟩ <;> omega)))
  · obtain ⟨hx, hy, hx0, hy0⟩ := pw_le hs.2 hBN (by omega)
    have xl := len_mono hx
    have yl := len_mono hy
    exact ⟨⟨Ml _, by omega⟩, Ml _, by omega⟩
  · omega
  · obtain ⟨hx, hy, hx0, hy0⟩ := pw_le hs.2 hBN (by omega)
    have yl := len_mono hy
    exact ⟨Ml _, by omega⟩
  · exact ⟨(m / 2, x * y, y * y), (by (refine Eo [] rfl ?_ ?_ <;> simp only [Me, Sl, AvLe, lk, ↓reduceIte, Nat.reduceEqDiff, Option.isSome_some, List.contains_cons, List.contains_nil, Bool.or_false, Nat.reduceBEq, and_self, and_true, true_and, reduceCtorEq, List.map_nil, List.map_cons, Option.some.injEq, AV.v.injEq, Value.int.injEq, Value.bool.injEq, AV.rd.injEq, AV.ow.injEq, AV.al.injEq, AV.ref.injEq] <;> (first | omega | (refine ⟨?_, ?_, ?_⟩ <;> omega)))), ⟨by dsimp only; omega, pw_odd hs.2 (by omega)⟩, by dsimp only; omega⟩
  · refine ⟨(m / 2, x * y, y), (by (refine Eo [] rfl ?_ ?_ <;> simp only [Me, Sl, AvLe, lk, ↓reduceIte, Nat.reduceEqDiff, Option.isSome_some, List.contains_cons, List.contains_nil, Bool.or_false, Nat.reduceBEq, and_self, and_true, true_and, reduceCtorEq, List.map_nil, List.map_cons, Option.some.injEq, AV.v.injEq, Value.int.injEq, Value.bool.injEq, AV.rd.injEq, AV.ow.injEq, AV.al.injEq, AV.ref.injEq] <;> (first | omega | (refine ⟨?_, ?_, ?_⟩ <;> omega)))), ⟨by dsimp only; omega, ?_⟩, by dsimp only; omega⟩
    have h0 : m / 2 = 0 := by omega
    have h1 := pw_odd hs.2 (by omega)
    dsimp only
    rw [h0, Nat.pow_zero, Nat.mul_one] at h1 ⊢
    exact h1
  · omega
  · obtain ⟨hx, hy, hx0, hy0⟩ := pw_le hs.2 hBN (by omega)
    have yl := len_mono hy
    exact ⟨Ml _, by omega⟩
  · exact ⟨(m / 2, x, y * y), (by (refine Eo [] rfl ?_ ?_ <;> simp only [Me, Sl, AvLe, lk, ↓reduceIte, Nat.reduceEqDiff, Option.isSome_some, List.contains_cons, List.contains_nil, Bool.or_false, Nat.reduceBEq, and_self, and_true, true_and, reduceCtorEq, List.map_nil, List.map_cons, Option.some.injEq, AV.v.injEq, Value.int.injEq, Value.bool.injEq, AV.rd.injEq, AV.ow.injEq, AV.al.injEq, AV.ref.injEq] <;> (first | omega | (refine ⟨?_, ?_, ?_⟩ <;> omega)))), ⟨by dsimp only; omega, pw_even hs.2 (by omega)⟩, by dsimp only; omega⟩
  · refine ⟨(m / 2, x, y), (by (refine Eo [] rfl ?_ ?_ <;> simp only [Me, Sl, AvLe, lk, ↓reduceIte, Nat.reduceEqDiff, Option.isSome_some, List.contains_cons, List.contains_nil, Bool.or_false, Nat.reduceBEq, and_self, and_true, true_and, reduceCtorEq, List.map_nil, List.map_cons, Option.some.injEq, AV.v.injEq, Value.int.injEq, Value.bool.injEq, AV.rd.injEq, AV.ow.injEq, AV.al.injEq, AV.ref.injEq] <;> (first | omega | (refine ⟨?_, ?_, ?_⟩ <;> omega)))), ⟨by dsimp only; omega, ?_⟩, by dsimp only; omega⟩
    have h0 : m / 2 = 0 := by omega
    have h1 := pw_even hs.2 (by omega)
    dsimp only
    rw [h0, Nat.pow_zero, Nat.mul_one] at h1 ⊢
    exact h1
  · have h0 : m = 0 := by omega
    have h1 := hs.2
    rw [h0, Nat.pow_zero, Nat.mul_one] at h1
    rw [h1]
theorem sound_41 : Sound Tryz.prog 41 .body (norm s41) := by
  refine sb Tryz.func41 rfl (by kernel_rfl) G41_ok (by kernel_rfl) fun ds p r hs hp => ?_
  unfold s41 at hs
  split at hs
  · cases hs; exact ⟨Nat.le_of_ble_eq_true (by kernel_rfl), wk41 _ _ hp⟩
  · cases hs
end Go.Proofs.AMT
