/- Part of the proof: own text. -/
import Derived.Test.YthdbkmpkebdliaaGreatDoorKA14
set_option linter.all false
set_option maxHeartbeats 20000000
set_option maxRecDepth 20000
namespace Go.Proofs.AMT
open Go.AM Go.AM.LN
attribute [local congr] bindO_congr bindS_congr bindG_congr awpOps_congr aOne_congr awp_congr aCond_congr awpD_congr dOne_congr keysB_congr nOne_congr thenP_congr blockP_congr Chk_congr Brk_congr
noncomputable def s177 : Cs := fun ds => match ds with
  | [.v (.int .u64 n)] => some (0 ≤ n ∧ n < 18446744073709551616, .one (.fresh .u64 (limbs n.toNat)))
  | _ => none
theorem s177_eq (n : Int) : norm s177 [.v (.int .u64 n)] = s177 [.v (.int .u64 n)] := rfl
noncomputable def G177 : Gam := [(105, .body, norm s105)]
theorem G177_ok : Gk Tryz.prog G177 := Gc sound_105 Gn
theorem k177_105 : lk G177 105 = some (.body, norm s105) := rfl
theorem wk177 (n : Int) (hp : 0 ≤ n ∧ n < 18446744073709551616) : awp ty G177 (code Tryz.f177) (retP ty Tryz.f177.results.toList (.one (.fresh .u64 (limbs n.toNat)))) (entry 0 [.v (.int .u64 n)]) [] := by
  unfold code
  simp only [Tryz.f177, Option.getD_some]
  all_goals repeat' (first
 | ((with_reducible first | (refine ZA ?_; intro X hX) | (show awp _ _ _ _ (Kp _ _) _) | refine ZD ?_ | refine ZE ?_ | refine ZF ?_ | ((show Bg _ _ _ _ _); simp only [hall]) | (refine ZR ?_ ?_ <;> intro hb <;> (try simp only [hb]) <;> have hq := hb <;> try simp only [HQ] at hq)) <;> try simp only [Go.AM.SS, Nat.reduceAdd, Nat.reduceMul, Nat.reduceSub, ↓reduceIte, Nat.reduceEqDiff, Nat.reduceLT, Nat.reduceLeDiff, reduceCtorEq, Int.reduceBEq, Int.reduceBNe, Nat.reduceBEq, Int.reduceEq, Int.reduceToNat, Int.reduceLE, Int.reduceLT, Nat.reduceDiv, Int.reduceAdd, Int.reduceSub, Int.reduceMul, Int.reduceNeg, Int.reduceGT, Int.reduceGE, Nat.reduceMod, k177_105, s105.eq_1, s105_eq, s105_nil1, ty_22, ty_50, sz_one, toInts])
 | with_reducible first
 | (refine hX _ _ ?_; clear hX X)
 | (refine ZG ?_; try clear hall all)
 | (refine hK _ _ ?_; clear hK K)
 | refine ZL ?_
 | (refine v_0 _ _ ?_; try clear v_0 V_0)
 | ((first | refine qr 1 [2] ?_ | refine qr 0 [0] ?_); intro V_0 v_0)
 | (refine ZM ?_; intro K hK)
 | (refine ZN ?_; intro all hall K hK)
 | (refine ZQ ?_ ?_)
 | refine ZT ?_ | refine ZU ?_ | refine ZW ?_)
  all_goals try clear v_0 V_0
  all_goals first
    | exact lim_one hp
    | exact ⟨lim_one hp, Nat.le_of_ble_eq_true rfl⟩
theorem sound_177 : Sound Tryz.prog 177 .body (norm s177) := by
  refine sb Tryz.func177 rfl (by kernel_rfl) G177_ok (by kernel_rfl) fun ds p r hs hp => ?_
  unfold s177 at hs
  split at hs
  · cases hs; exact ⟨Nat.le_of_ble_eq_true (by kernel_rfl), wk177 _ hp⟩
  · cases hs
noncomputable def s108 : Cs := fun ds => match ds with
  | [.sl .u64 a, .v (.int .u64 n)] => some ((lim a ∧ a.length ≤ 100000000) ∧ 0 < n ∧ n < 18446744073709551616, .many [.fresh .u64 (limbs (val a / n.toNat)), .fresh .u64 (limbs (val a % n.toNat))])
  | _ => none
theorem s108_eq (a : List Int) (n : Int) : norm s108 [.sl .u64 a, .v (.int .u64 n)] = s108 [.sl .u64 a, .v (.int .u64 n)] := rfl
theorem s108_nil1  (n : Int) : norm s108 [.v (.slice none 0 0), .v (.int .u64 n)] = s108 [.sl .u64 [], .v (.int .u64 n)] := rfl
noncomputable def G108 : Gam := [(105, .body, norm s105), (176, .body, norm s176), (177, .body, norm s177)]
theorem G108_ok : Gk Tryz.prog G108 := Gc sound_105 (Gc sound_176 (Gc sound_177 Gn))
theorem k108_105 : lk G108 105 = some (.body, norm s105) := rfl
theorem k108_176 : lk G108 176 = some (.body, norm s176) := rfl
theorem k108_177 : lk G108 177 = some (.body, norm s177) := rfl
theorem wk108 (a : List Int) (n : Int) (hp : (lim a ∧ a.length ≤ 100000000) ∧ 0 < n ∧ n < 18446744073709551616) : awp ty G108 (code Tryz.f108) (retP ty Tryz.f108.results.toList (.many [.fresh .u64 (limbs (val a / n.toNat)), .fresh .u64 (limbs (val a % n.toNat))])) (entry 0 [.sl .u64 a, .v (.int .u64 n)]) [] := by
  unfold code
  simp only [Tryz.f108, Option.getD_some]
  obtain ⟨m, rfl⟩ := Int.eq_ofNat_of_zero_le (show 0 ≤ n by omega)
  all_goals repeat' (first
 | ((with_reducible first | (refine ZA ?_; intro X hX) | (show awp _ _ _ _ (Kp _ _) _) | refine ZD ?_ | refine ZE ?_ | refine ZF ?_ | ((show Bg _ _ _ _ _); simp only [hall]) | (refine ZR ?_ ?_ <;> intro hb <;> (try simp only [hb]) <;> have hq := hb <;> try simp only [HQ] at hq)) <;> try simp only [Go.AM.SS, Nat.reduceAdd, Nat.reduceMul, Nat.reduceSub, ↓reduceIte, Nat.reduceEqDiff, Nat.reduceLT, Nat.reduceLeDiff, reduceCtorEq, Int.reduceBEq, Int.reduceBNe, Nat.reduceBEq, Int.reduceEq, Int.reduceToNat, Int.reduceLE, Int.reduceLT, Nat.reduceDiv, Int.reduceAdd, Int.reduceSub, Int.reduceMul, Int.reduceNeg, Int.reduceGT, Int.reduceGE, Nat.reduceMod, k108_105, s105.eq_1, s105_eq, s105_nil1, k108_176, s176.eq_1, s176_eq, k108_177, s177.eq_1, s177_eq, ty_3, ty_22, ty_50, List.length_replicate])
 | with_reducible first
 | (refine hX _ _ ?_; clear hX X)
 | (refine ZG ?_; try clear hall all)
 | (refine hK _ _ ?_; clear hK K)
 | refine ZL ?_
 | (refine v_0 _ _ ?_; try clear v_0 V_0)
 | (refine v_1 _ _ ?_; try clear v_1 V_1)
 | (refine v_2 _ _ ?_; try clear v_2 V_2)
    | (with_reducible refine awp_lp (σ := Nat × Nat × List Int) (fun s => (s.1 ≤ a.length ∧ s.2.1 < m ∧ s.2.2.length = a.length) ∧ lim s.2.2 ∧ val (s.2.2.drop s.1) = val (a.drop s.1) / m ∧ s.2.1 = val (a.drop s.1) % m) (fun s => [(0, .rd .u64 a), (1, .v (.int .u64 m)), (6, .ow 176), (7, .v (.int .u64 s.2.1)), (8, .v (.int .i64 ((s.1 : Int) - 1)))]) (fun s => [(176, .ints .u64 s.2.2, false)]) (fun s => s.1) (a.length, 0, List.replicate a.length 0) ?_ ?_ (fun s hs => ?_))
 | ((first | refine qr 7 [4,5] ?_ | refine Zh (a := .seq (.region 3 _ _) _) [6,7] ?_ | refine qr 2 [0,1,6,7] ?_ | refine qr 1 [0,1,6] ?_ | refine qr 0 [0,1] ?_); intro V_0 v_0)
 | ((first | refine qb 1 [0,1,6,7,8] ?_ | refine Zh (a := .seq (.region 4 _ _) _) [0,1,6,7,8] ?_ | refine qr 3 [0,1,6,7,8] ?_); intro V_1 v_1)
 | ((first | refine qr 4 [0,1,6,7,8,16] ?_); intro V_2 v_2)
 | (refine ZM ?_; intro K hK)
 | (refine ZN ?_; intro all hall K hK)
 | (refine ZQ ?_ ?_)
 | (refine Zg ?_; simp only [↓reduceIte, Nat.reduceEqDiff])
 | refine ZS ?_ | refine ZT ?_ | refine ZU ?_ | refine ZV ?_ | refine ZW ?_ | refine ZX ?_ | refine ZY ?_ | refine ZZ ?_ | refine Za ?_ | refine Ze ?_ | refine Zf ?_)
  all_goals try clear v_2 V_2
  all_goals try clear v_1 V_1
  all_goals try clear v_0 V_0
  all_goals (try (rcases s with ⟨i, c, o⟩))
  all_goals (try (obtain ⟨ss, hs⟩ := hs))
  all_goals (try dsimp only at *)
  all_goals (try simp only [inR])
  all_goals (try omega)
  · refine ⟨⟨Nat.le_refl _, by omega, by simp⟩, lim_rep _, ?_, ?_⟩
    · rw [List.drop_of_length_le (by simp), List.drop_length]; simp [val]
    · rw [List.drop_length]; simp [val]
  · exact Ent.refl _ _
  · have h1 := Mg hp.1.1 (i := ((i : Int) - 1).toNat)
    exact ⟨⟨by omega, by omega⟩, h1, by omega, by omega⟩
  · have e : ((i : Int) - 1).toNat = i - 1 := by omega
    rw [e]
    have h1 := Mg hp.1.1 (i := i - 1)
    have h2 := word_step (i := i - 1) hp.1.1 (show 0 < m by omega) (show c < m by omega) (by omega) (show o.length = a.length by omega) (by rw [show i - 1 + 1 = i by omega]; exact hs.2)
    have h3 := word_lt (n := m) (by omega) (show c < m by omega) (show (a.getD (i - 1) 0).toNat < 18446744073709551616 by omega)
    have h4 := Nat.mod_lt (c * 18446744073709551616 + (a.getD (i - 1) 0).toNat) (show 0 < m by omega)
    exact ⟨(i - 1, (c * 18446744073709551616 + (a.getD (i - 1) 0).toNat) % m, o.set (i - 1) (((c * 18446744073709551616 + (a.getD (i - 1) 0).toNat) / m : Nat) : Int)), by (refine Eo [(176, 176)] rfl ?_ ?_ <;> simp only [Me, Sl, AvLe, lk, ↓reduceIte, Nat.reduceEqDiff, Option.isSome_some, and_self, and_true, true_and, reduceCtorEq, List.map_nil, List.map_cons, Option.some.injEq, AV.v.injEq, Value.int.injEq, Value.bool.injEq, AV.rd.injEq, AV.ow.injEq, AV.al.injEq, AV.ref.injEq] <;> omega), ⟨⟨by dsimp only; omega, h4, by simp; omega⟩, lim_set hs.1 (nat_lim h3) _, h2.1, h2.2⟩, by dsimp only; omega⟩
  · exact ⟨hs.1, by omega⟩
  · have h0 : i = 0 := by omega
    subst h0
    have h1 := hs.2
    rw [List.drop_zero, List.drop_zero] at h1
    rw [h1.1, h1.2]
    exact ⟨rfl, rfl⟩
theorem sound_108 : Sound Tryz.prog 108 .body (norm s108) := by
  refine sb Tryz.func108 rfl (by kernel_rfl) G108_ok (by kernel_rfl) fun ds p r hs hp => ?_
  unfold s108 at hs
  split at hs
  · cases hs; exact ⟨Nat.le_of_ble_eq_true (by kernel_rfl), wk108 _ _ hp⟩
  · cases hs
end Go.Proofs.AMT
