/- Part 11 of the proof: own text (Fcaliperref02small, Fcaliperref02Over, Fcaliperref06q2, Fcaliperref06Whole, Fcaliperref05Largest, Fcaliperref06Far, Fcaliperref06Round, Fcaliperref06Binary, NA, Fcaliperlaw21NativeInts). -/
import Derived.Test.YtknejocjkjpfmaaK0
import Derived.Test.YtknejocjkjpfmaaK1
import Derived.Test.YtknejocjkjpfmaaK2
import Derived.Test.YtknejocjkjpfmaaK3
import Derived.Test.YtknejocjkjpfmaaK4
import Derived.Test.YtknejocjkjpfmaaK5
import Derived.Test.YtknejocjkjpfmaaK6
import Derived.Test.YtknejocjkjpfmaaK7
import Derived.Test.YtknejocjkjpfmaaK8
import Derived.Test.YtknejocjkjpfmaaK9
import Derived.Test.YtknejocjkjpfmaaK10
set_option linter.all false
set_option maxRecDepth 20000
namespace Go.Proofs.AMT
open Go.AM Go.AM.LN
attribute [local congr] bindO_congr bindS_congr bindG_congr awpOps_congr aOne_congr awp_congr aCond_congr awpD_congr dOne_congr keysB_congr nOne_congr thenP_congr blockP_congr Chk_congr Brk_congr
noncomputable def s101 : CSpec := fun ds => match ds with
  | [.sl .u64 a, .v (.int .u64 n)] => some ((lim a ∧ a.length ≤ 100000000) ∧ 0 < n ∧ n < 18446744073709551616, .many [.fresh .u64 (limbs (val a / n.toNat)), .fresh .u64 (limbs (val a % n.toNat))])
  | _ => none
theorem s101_eq (a : List Int) (n : Int) : norm s101 [.sl .u64 a, .v (.int .u64 n)] = some ((lim a ∧ a.length ≤ 100000000) ∧ 0 < n ∧ n < 18446744073709551616, .many [.fresh .u64 (limbs (val a / n.toNat)), .fresh .u64 (limbs (val a % n.toNat))]) := rfl
theorem s101_nil1  (n : Int) : norm s101 [.v (.slice none 0 0), .v (.int .u64 n)] = some ((lim ([] : List Int) ∧ ([] : List Int).length ≤ 100000000) ∧ 0 < n ∧ n < 18446744073709551616, .many [.fresh .u64 (limbs (val ([] : List Int) / n.toNat)), .fresh .u64 (limbs (val ([] : List Int) % n.toNat))]) := rfl
noncomputable def G101 : Gam := [(33, .body, norm s33), (107, .body, norm s107), (108, .body, norm s108)]
theorem G101_ok : GamOk Try.prog G101 := gamOk_cons sound_33 (gamOk_cons sound_107 (gamOk_cons sound_108 gamOk_nil))
theorem k101_33 : lk G101 33 = some (.body, norm s33) := rfl
theorem k101_107 : lk G101 107 = some (.body, norm s107) := rfl
theorem k101_108 : lk G101 108 = some (.body, norm s108) := rfl
set_option maxHeartbeats 20000000 in
theorem w101 (a : List Int) (n : Int) (hp : (lim a ∧ a.length ≤ 100000000) ∧ 0 < n ∧ n < 18446744073709551616) : awp ty G101 (code Try.f101) (retP ty Try.f101.results.toList (.many [.fresh .u64 (limbs (val a / n.toNat)), .fresh .u64 (limbs (val a % n.toNat))])) (entry 0 [.sl .u64 a, .v (.int .u64 n)]) [] := by
  unfold code
  simp only [Try.f101, Option.getD_some]
  obtain ⟨m, rfl⟩ := Int.eq_ofNat_of_zero_le (show 0 ≤ n by omega)
  all_goals repeat' (first
    | ((first
       | (with_reducible refine ops_k ?_; intro X hX)
       | (with_reducible refine opsN_k ?_; intro X hX)
       | (with_reducible show awp _ _ _ _ (keepL _ _) _)
       | with_reducible refine awp_cond_k ?_
       | (with_reducible refine Brk_i ?_ ?_ <;> intro hb <;> (try simp only [hb]) <;> have hq := hb <;> try simp only [decide_eq_true_eq, decide_eq_false_iff_not, gt_iff_lt, ge_iff_le, Int.not_lt, Int.not_le, beq_iff_eq, beq_eq_false_iff_ne, Bool.not_eq_true', Bool.not_eq_false', Bool.and_eq_true, Bool.or_eq_true, Bool.and_eq_false_imp, Bool.or_eq_false_iff, ne_eq, Classical.not_not] at hq)
       | with_reducible refine retP_ret_i ?_
       | with_reducible refine retP_normal_i ?_
       | (with_reducible (show bindG _ _ _ _ _); simp only [hall])) <;> try simp only [Go.AM.S1, Go.AM.S2, Go.AM.S3, Go.AM.S4, Go.AM.S5, Go.AM.S6, Go.AM.S7, Go.AM.S8, Go.AM.S9, Nat.reduceAdd, Nat.reduceMul, Nat.reduceSub, ↓reduceIte, Nat.reduceEqDiff, Nat.reduceLT, Nat.reduceLeDiff, reduceCtorEq, Int.reduceBEq, Int.reduceBNe, Nat.reduceBEq, Int.reduceEq, Int.reduceToNat, Int.reduceLE, Int.reduceLT, Nat.reduceDiv, Int.reduceAdd, Int.reduceSub, Int.reduceMul, Int.reduceNeg, Int.reduceGT, Int.reduceGE, Nat.reduceMod, k101_33, s33_eq, s33_nil1, k101_107, s107_eq, k101_108, s108_eq, ty_3, ty_26, ty_42, List.length_replicate])
    | (with_reducible refine hX _ _ ?_; clear hX X)
    | (with_reducible refine ops_nil_i ?_; try clear hall all)
    | (with_reducible refine opsN_nil_i ?_; try clear hall all)
    | (with_reducible refine hK _ _ ?_; clear hK K)
    | with_reducible refine thenP_normal_i ?_
    | (with_reducible refine zzr7 _ _ ?_; try clear zzr7 Kzzr7)
    | (with_reducible refine zzsr3 _ _ ?_; try clear zzsr3 Kzzsr3)
    | (with_reducible refine zzb1 _ _ ?_; try clear zzb1 Kzzb1)
    | (with_reducible refine zzsr4 _ _ ?_; try clear zzsr4 Kzzsr4)
    | (with_reducible refine zzr4 _ _ ?_; try clear zzr4 Kzzr4)
    | (with_reducible refine zzr3 _ _ ?_; try clear zzr3 Kzzr3)
    | (with_reducible refine zzr2 _ _ ?_; try clear zzr2 Kzzr2)
    | (with_reducible refine zzr1 _ _ ?_; try clear zzr1 Kzzr1)
    | (with_reducible refine zzr0 _ _ ?_; try clear zzr0 Kzzr0)
    | (with_reducible refine awp_lp (σ := Nat × Nat × List Int) (fun s => (s.1 ≤ a.length ∧ s.2.1 < m ∧ s.2.2.length = a.length) ∧ lim s.2.2 ∧ val (s.2.2.drop s.1) = val (a.drop s.1) / m ∧ s.2.1 = val (a.drop s.1) % m) (fun s => [(0, .rd .u64 a), (1, .v (.int .u64 m)), (6, .ow 176), (7, .v (.int .u64 s.2.1)), (8, .v (.int .i64 ((s.1 : Int) - 1)))]) (fun s => [(176, .ints .u64 s.2.2, false)]) (fun s => s.1) (a.length, 0, List.replicate a.length 0) ?_ ?_ (fun s hs => ?_))
    | (with_reducible refine awp_seq_l (a := .region 7 _ _) [4, 5] ?_; intro Kzzr7 zzr7)
    | (with_reducible refine awp_seq_l (a := .seq (.region 3 _ _) _) [6, 7] ?_; intro Kzzsr3 zzsr3)
    | (with_reducible refine awp_seq_l (a := .block 1 _) [0, 1, 6, 7, 8] ?_; intro Kzzb1 zzb1)
    | (with_reducible refine awp_seq_l (a := .seq (.region 4 _ _) _) [0, 1, 6, 7, 8] ?_; intro Kzzsr4 zzsr4)
    | (with_reducible refine awp_seq_l (a := .region 4 _ _) [0, 1, 6, 7, 8, 16] ?_; intro Kzzr4 zzr4)
    | (with_reducible refine awp_seq_l (a := .region 3 _ _) [0, 1, 6, 7, 8] ?_; intro Kzzr3 zzr3)
    | (with_reducible refine awp_seq_l (a := .region 2 _ _) [0, 1, 6, 7] ?_; intro Kzzr2 zzr2)
    | (with_reducible refine awp_seq_l (a := .region 1 _ _) [0, 1, 6] ?_; intro Kzzr1 zzr1)
    | (with_reducible refine awp_seq_l (a := .region 0 _ _) [0, 1] ?_; intro Kzzr0 zzr0)
    | (with_reducible refine awp_seq_k ?_; intro K hK)
    | (with_reducible refine awp_region_a ?_; intro all hall K hK)
    | (with_reducible refine awp_draw_n ?_ ?_; kernel_rfl; intro all hall K hK)
    | (with_reducible refine Chk_i ?_ ?_)
    | (with_reducible refine keysC_i ?_; kernel_rfl)
    | (with_reducible first | refine awp_block_i ?_ | refine awp_skip_i ?_ | refine awp_ret_i ?_ | refine awp_exit_i ?_ | refine thenP_ret_i ?_ | refine thenP_exit_i ?_ | refine lpP_ret_i ?_ | refine lpP_exit_i ?_ | refine unrP_succ_i ?_ | refine unrP_ret_i ?_ | refine unrP_exit_i ?_ | refine blockP_normal_i ?_ | refine blockP_ret_i ?_)
    | (with_reducible refine blockP_exit_i ?_; simp only [↓reduceIte, Nat.reduceEqDiff])
    | with_reducible refine lpP_normal_i ?_)
  all_goals (try clear zzr0; try clear Kzzr0)
  all_goals (try clear zzr1; try clear Kzzr1)
  all_goals (try clear zzr2; try clear Kzzr2)
  all_goals (try clear zzr3; try clear Kzzr3)
  all_goals (try clear zzr4; try clear Kzzr4)
  all_goals (try clear zzsr4; try clear Kzzsr4)
  all_goals (try clear zzb1; try clear Kzzb1)
  all_goals (try clear zzsr3; try clear Kzzsr3)
  all_goals (try clear zzr7; try clear Kzzr7)
  all_goals (try (rcases s with ⟨i, c, o⟩))
  all_goals (try (obtain ⟨ss, hs⟩ := hs))
  all_goals (try dsimp only at *)
  all_goals (try simp only [inR])
  all_goals (try omega)
  · refine ⟨⟨Nat.le_refl _, by omega, by simp⟩, lim_rep _, ?_, ?_⟩
    · rw [List.drop_of_length_le (by simp), List.drop_length]; simp [val]
    · rw [List.drop_length]; simp [val]
  · exact Ent.refl _ _
  · have h1 := lim_get hp.1.1 (i := ((i : Int) - 1).toNat)
    exact ⟨⟨by omega, by omega⟩, h1, by omega, by omega⟩
  · have e : ((i : Int) - 1).toNat = i - 1 := by omega
    rw [e]
    have h1 := lim_get hp.1.1 (i := i - 1)
    have h2 := word_step (i := i - 1) hp.1.1 (show 0 < m by omega) (show c < m by omega) (by omega) (show o.length = a.length by omega) (by rw [show i - 1 + 1 = i by omega]; exact hs.2)
    have h3 := word_lt (n := m) (by omega) (show c < m by omega) (show (a.getD (i - 1) 0).toNat < 18446744073709551616 by omega)
    have h4 := Nat.mod_lt (c * 18446744073709551616 + (a.getD (i - 1) 0).toNat) (show 0 < m by omega)
    exact ⟨(i - 1, (c * 18446744073709551616 + (a.getD (i - 1) 0).toNat) % m, o.set (i - 1) (((c * 18446744073709551616 + (a.getD (i - 1) 0).toNat) / m : Nat) : Int)), by (refine ent_ok [(176, 176)] rfl ?_ ?_ <;> simp only [memLe, slotsLe, AvLe, lk, ↓reduceIte, Nat.reduceEqDiff, Option.isSome_some, and_self, and_true, true_and, reduceCtorEq, List.map_nil, List.map_cons, Option.some.injEq, AV.v.injEq, Value.int.injEq, Value.bool.injEq, AV.rd.injEq, AV.ow.injEq, AV.al.injEq, AV.ref.injEq] <;> omega), ⟨⟨by dsimp only; omega, h4, by simp; omega⟩, lim_set hs.1 (nat_lim h3) _, h2.1, h2.2⟩, by dsimp only; omega⟩
  · exact ⟨hs.1, by omega⟩
  · have h0 : i = 0 := by omega
    subst h0
    have h1 := hs.2
    rw [List.drop_zero, List.drop_zero] at h1
    rw [h1.1, h1.2]
    exact ⟨rfl, rfl⟩
theorem sound_101 : Sound Try.prog 101 .body (norm s101) := by
  refine sound_norm (sound_body Try.func101 (show Try.f101.body = some (code Try.f101) from rfl) (by kernel_rfl) tysOk G101_ok (drawOk_ok (by kernel_rfl) tysOk G101_ok) (by kernel_rfl) fun ds p r hs hp => ?_)
  unfold s101 at hs
  split at hs
  · cases hs; exact ⟨Nat.le_of_ble_eq_true (by kernel_rfl), w101 _ _ hp⟩
  · cases hs
end Go.Proofs.AMT
set_option maxRecDepth 20000
namespace Go.Proofs.AMT
open Go.AM Go.AM.LN
attribute [local congr] bindO_congr bindS_congr bindG_congr awpOps_congr aOne_congr awp_congr aCond_congr awpD_congr dOne_congr keysB_congr nOne_congr thenP_congr blockP_congr Chk_congr Brk_congr
noncomputable def s85 : CSpec := fun ds => match ds with
  | [.sl .u64 a, .sl .u64 b] => some ((lim a ∧ a.length ≤ 10000000) ∧ (lim b ∧ b.length ≤ 10000000) ∧ val b ≠ 0, .many [.view .u64 (limbs (val a / val b)), .view .u64 (limbs (val a % val b))])
  | _ => none
theorem s85_eq (a : List Int) (b : List Int) : norm s85 [.sl .u64 a, .sl .u64 b] = some ((lim a ∧ a.length ≤ 10000000) ∧ (lim b ∧ b.length ≤ 10000000) ∧ val b ≠ 0, .many [.view .u64 (limbs (val a / val b)), .view .u64 (limbs (val a % val b))]) := rfl
theorem s85_nil1  (b : List Int) : norm s85 [.v (.slice none 0 0), .sl .u64 b] = some ((lim ([] : List Int) ∧ ([] : List Int).length ≤ 10000000) ∧ (lim b ∧ b.length ≤ 10000000) ∧ val b ≠ 0, .many [.view .u64 (limbs (val ([] : List Int) / val b)), .view .u64 (limbs (val ([] : List Int) % val b))]) := rfl
theorem s85_nil2 (a : List Int)  : norm s85 [.sl .u64 a, .v (.slice none 0 0)] = some ((lim a ∧ a.length ≤ 10000000) ∧ (lim ([] : List Int) ∧ ([] : List Int).length ≤ 10000000) ∧ val ([] : List Int) ≠ 0, .many [.view .u64 (limbs (val a / val ([] : List Int))), .view .u64 (limbs (val a % val ([] : List Int)))]) := rfl
theorem s85_nil3   : norm s85 [.v (.slice none 0 0), .v (.slice none 0 0)] = some ((lim ([] : List Int) ∧ ([] : List Int).length ≤ 10000000) ∧ (lim ([] : List Int) ∧ ([] : List Int).length ≤ 10000000) ∧ val ([] : List Int) ≠ 0, .many [.view .u64 (limbs (val ([] : List Int) / val ([] : List Int))), .view .u64 (limbs (val ([] : List Int) % val ([] : List Int)))]) := rfl
noncomputable def G85 : Gam := [(31, .body, norm s31), (33, .body, norm s33), (56, .body, norm s56), (57, .body, norm s57), (84, .body, norm s84), (86, .body, norm s86), (90, .body, norm s90), (101, .body, norm s101)]
theorem G85_ok : GamOk Try.prog G85 := gamOk_cons sound_31 (gamOk_cons sound_33 (gamOk_cons sound_56 (gamOk_cons sound_57 (gamOk_cons sound_84 (gamOk_cons sound_86 (gamOk_cons sound_90 (gamOk_cons sound_101 gamOk_nil)))))))
theorem k85_31 : lk G85 31 = some (.body, norm s31) := rfl
theorem k85_33 : lk G85 33 = some (.body, norm s33) := rfl
theorem k85_56 : lk G85 56 = some (.body, norm s56) := rfl
theorem k85_57 : lk G85 57 = some (.body, norm s57) := rfl
theorem k85_84 : lk G85 84 = some (.body, norm s84) := rfl
theorem k85_86 : lk G85 86 = some (.body, norm s86) := rfl
theorem k85_90 : lk G85 90 = some (.body, norm s90) := rfl
theorem k85_101 : lk G85 101 = some (.body, norm s101) := rfl
set_option maxHeartbeats 20000000 in
theorem w85 (a : List Int) (b : List Int) (hp : (lim a ∧ a.length ≤ 10000000) ∧ (lim b ∧ b.length ≤ 10000000) ∧ val b ≠ 0) : awp ty G85 (code Try.f85) (retP ty Try.f85.results.toList (.many [.view .u64 (limbs (val a / val b)), .view .u64 (limbs (val a % val b))])) (entry 0 [.sl .u64 a, .sl .u64 b]) [] := by
  unfold code
  simp only [Try.f85, Option.getD_some]
  obtain ⟨la, lb, hy0⟩ := hp
  have za := sz_le a
  have zb := sz_le b
  have ba := lt_pow_of_len la.1 (Nat.le_refl a.length)
  have bb := lt_pow_of_len lb.1 (Nat.le_refl b.length)
  have sb1 : sz b = 1 → val b = (b.getD 0 0).toNat := fun h => by
    have h2 := take_sz lb.1
    rw [h] at h2
    rw [← val_limbs (val b), ← h2]
    exact (val_take_succ' b 0).trans (by simp [val])
  have sbp : sz b ≠ 0 := fun h => hy0 ((sz_zero lb.1).1 h)
  have gb := lim_get lb.1 (i := 0)
  generalize hx : val a = x at *
  generalize hy : val b = y at *
  have bx : blen x ≤ 64 * a.length := blen_lt.2 ba
  have b_y : blen y ≤ 64 * b.length := blen_lt.2 bb
  have by0 : 1 ≤ blen y := by have := @blen_zero y; omega
  obtain ⟨F, hF⟩ : ∃ F : Nat, blen x - blen y = F := ⟨_, rfl⟩
  have hfar : ∀ h : ¬ (blen x : Int) - (blen y : Int) < 0, (blen x : Int) - (blen y : Int) = (F : Int) := fun h => by omega
  have hmT : (((F / 64 : Nat) : Int) + 1).toNat = F / 64 + 1 := by omega
  have hsub : ∀ k : Nat, ((k : Int) - 1 ≥ 0) = (1 ≤ k) := fun k => by simp only [ge_iff_le, eq_iff_iff]; omega
  have hdq : ∀ m : Nat, (m : Int).tdiv 64 = ((m / 64 : Nat) : Int) := fun m => by rw [Int.tdiv_eq_ediv_of_nonneg (by omega)]; omega
  have hdm : ∀ m : Nat, (m : Int).tmod 64 = ((m % 64 : Nat) : Int) := fun m => by rw [Int.tmod_eq_emod_of_nonneg (by omega)]; omega
  have hp64 : (2 : Nat) ^ (1 : Int).toNat = 2 := rfl
  have h64 : ∀ m : Nat, min (m % 64) 64 = m % 64 := fun m => by omega
  all_goals repeat' (first
    | ((first
       | (with_reducible refine ops_k ?_; intro X hX)
       | (with_reducible refine opsN_k ?_; intro X hX)
       | (with_reducible show awp _ _ _ _ (keepL _ _) _)
       | with_reducible refine awp_cond_k ?_
       | (with_reducible refine Brk_i ?_ ?_ <;> intro hb <;> (try simp only [hb]) <;> have hq := hb <;> try simp only [decide_eq_true_eq, decide_eq_false_iff_not, gt_iff_lt, ge_iff_le, Int.not_lt, Int.not_le, beq_iff_eq, beq_eq_false_iff_ne, Bool.not_eq_true', Bool.not_eq_false', Bool.and_eq_true, Bool.or_eq_true, Bool.and_eq_false_imp, Bool.or_eq_false_iff, ne_eq, Classical.not_not] at hq)
       | with_reducible refine retP_ret_i ?_
       | with_reducible refine retP_normal_i ?_
       | (with_reducible (show bindG _ _ _ _ _); simp only [hall])) <;> try simp only [Go.AM.S1, Go.AM.S2, Go.AM.S3, Go.AM.S4, Go.AM.S5, Go.AM.S6, Go.AM.S7, Go.AM.S8, Go.AM.S9, Nat.reduceAdd, Nat.reduceMul, Nat.reduceSub, ↓reduceIte, Nat.reduceEqDiff, Nat.reduceLT, Nat.reduceLeDiff, reduceCtorEq, Int.reduceBEq, Int.reduceBNe, Nat.reduceBEq, Int.reduceEq, Int.reduceToNat, Int.reduceLE, Int.reduceLT, Nat.reduceDiv, Int.reduceAdd, Int.reduceSub, Int.reduceMul, Int.reduceNeg, Int.reduceGT, Int.reduceGE, Nat.reduceMod, k85_31, s31_eq, s31_nil1, k85_33, s33_eq, s33_nil1, k85_56, s56_eq, s56_nil1, k85_57, s57_eq, s57_nil1, k85_84, s84_eq, s84_nil1, s84_nil2, s84_nil3, k85_86, s86_eq, s86_nil1, k85_90, s90_eq, s90_nil1, s90_nil2, s90_nil3, k85_101, s101_eq, s101_nil1, ty_3, ty_26, ty_42, ty_72, toInts, hx, hy, val_limbs, List.length_replicate, hfar, hdq, hdm, hmT, hsub, IntKind.bits, hp64, h64])
    | (with_reducible refine hX _ _ ?_; clear hX X)
    | (with_reducible refine ops_nil_i ?_; try clear hall all)
    | (with_reducible refine opsN_nil_i ?_; try clear hall all)
    | (with_reducible refine hK _ _ ?_; clear hK K)
    | with_reducible refine thenP_normal_i ?_
    | (with_reducible refine zzr16 _ _ ?_; try clear zzr16 Kzzr16)
    | (with_reducible refine zzsr9 _ _ ?_; try clear zzsr9 Kzzsr9)
    | (with_reducible refine zzb1 _ _ ?_; try clear zzb1 Kzzb1)
    | (with_reducible refine zzsr12 _ _ ?_; try clear zzsr12 Kzzsr12)
    | (with_reducible refine zzr13 _ _ ?_; try clear zzr13 Kzzr13)
    | (with_reducible refine zzr12 _ _ ?_; try clear zzr12 Kzzr12)
    | (with_reducible refine zzsr10 _ _ ?_; try clear zzsr10 Kzzsr10)
    | (with_reducible refine zzr10 _ _ ?_; try clear zzr10 Kzzr10)
    | (with_reducible refine zzr9 _ _ ?_; try clear zzr9 Kzzr9)
    | (with_reducible refine zzr8 _ _ ?_; try clear zzr8 Kzzr8)
    | (with_reducible refine zzr7 _ _ ?_; try clear zzr7 Kzzr7)
    | (with_reducible refine zzsr5 _ _ ?_; try clear zzsr5 Kzzsr5)
    | (with_reducible refine zzr6 _ _ ?_; try clear zzr6 Kzzr6)
    | (with_reducible refine zzr5 _ _ ?_; try clear zzr5 Kzzr5)
    | (with_reducible refine zzr4 _ _ ?_; try clear zzr4 Kzzr4)
    | (with_reducible refine zzr3 _ _ ?_; try clear zzr3 Kzzr3)
    | (with_reducible refine zzsr1 _ _ ?_; try clear zzsr1 Kzzsr1)
    | (with_reducible refine zzr2 _ _ ?_; try clear zzr2 Kzzr2)
    | (with_reducible refine zzr1 _ _ ?_; try clear zzr1 Kzzr1)
    | (with_reducible refine zzr0 _ _ ?_; try clear zzr0 Kzzr0)
    | (with_reducible refine awp_lp (c := .seq (.seq (.region 10 _ _) _) _) (σ := Nat × Nat × List Int) (fun s => s.1 ≤ F + 1 ∧ s.2.2.length = F / 64 + 1 ∧ lim s.2.2 ∧ OvI x y s.1 s.2.1 (val s.2.2)) (fun s => [(7, .rd .u64 (limbs s.2.1)), (8, .ow 560), (9, .rd .u64 (limbs (y * 2 ^ s.1 / 2))), (10, .v (.int .i64 ((s.1 : Int) - 1)))]) (fun s => [(560, .ints .u64 s.2.2, false)]) (fun s => s.1) (F + 1, x, List.replicate (F / 64 + 1) 0) ?_ ?_ (fun s hs => ?_))
    | (with_reducible refine awp_seq_l (a := .region 16 _ _) [4, 5] ?_; intro Kzzr16 zzr16)
    | (with_reducible refine awp_seq_l (a := .seq (.region 9 _ _) _) [7, 8] ?_; intro Kzzsr9 zzsr9)
    | (with_reducible refine awp_seq_l (a := .block 1 _) [7, 8, 9, 10] ?_; intro Kzzb1 zzb1)
    | (with_reducible refine awp_seq_l (a := .seq (.region 12 _ _) _) [7, 8, 9, 10] ?_; intro Kzzsr12 zzsr12)
    | (with_reducible refine awp_seq_l (a := .region 13 _ _) [7, 8, 9, 10] ?_; intro Kzzr13 zzr13)
    | (with_reducible refine awp_seq_l (a := .region 12 _ _) [7, 8, 9, 10, 47] ?_; intro Kzzr12 zzr12)
    | (with_reducible refine awp_seq_l (a := .seq (.region 10 _ _) _) [7, 8, 9, 10] ?_; intro Kzzsr10 zzsr10)
    | (with_reducible refine awp_seq_l (a := .region 10 _ _) [7, 8, 9, 10, 41] ?_; intro Kzzr10 zzr10)
    | (with_reducible refine awp_seq_l (a := .region 9 _ _) [7, 8, 9, 10] ?_; intro Kzzr9 zzr9)
    | (with_reducible refine awp_seq_l (a := .region 8 _ _) [6, 7, 8, 9] ?_; intro Kzzr8 zzr8)
    | (with_reducible refine awp_seq_l (a := .region 7 _ _) [1, 6, 7, 8] ?_; intro Kzzr7 zzr7)
    | (with_reducible refine awp_seq_l (a := .seq (.region 5 _ _) _) [1, 6, 7] ?_; intro Kzzsr5 zzsr5)
    | (with_reducible refine awp_seq_l (a := .region 6 _ _) [4, 5] ?_; intro Kzzr6 zzr6)
    | (with_reducible refine awp_seq_l (a := .region 5 _ _) [1, 6, 7, 29] ?_; intro Kzzr5 zzr5)
    | (with_reducible refine awp_seq_l (a := .region 4 _ _) [1, 6, 7] ?_; intro Kzzr4 zzr4)
    | (with_reducible refine awp_seq_l (a := .region 3 _ _) [0, 1, 6] ?_; intro Kzzr3 zzr3)
    | (with_reducible refine awp_seq_l (a := .seq (.region 1 _ _) _) [0, 1] ?_; intro Kzzsr1 zzsr1)
    | (with_reducible refine awp_seq_l (a := .region 2 _ _) [4, 5] ?_; intro Kzzr2 zzr2)
    | (with_reducible refine awp_seq_l (a := .region 1 _ _) [0, 1, 13] ?_; intro Kzzr1 zzr1)
    | (with_reducible refine awp_seq_l (a := .region 0 _ _) [0, 1] ?_; intro Kzzr0 zzr0)
    | (with_reducible refine awp_seq_k ?_; intro K hK)
    | (with_reducible refine awp_region_a ?_; intro all hall K hK)
    | (with_reducible refine awp_draw_n ?_ ?_; kernel_rfl; intro all hall K hK)
    | (with_reducible refine Chk_i ?_ ?_)
    | (with_reducible refine keysC_i ?_; kernel_rfl)
    | (with_reducible first | refine awp_block_i ?_ | refine awp_skip_i ?_ | refine awp_ret_i ?_ | refine awp_exit_i ?_ | refine thenP_ret_i ?_ | refine thenP_exit_i ?_ | refine lpP_ret_i ?_ | refine lpP_exit_i ?_ | refine unrP_succ_i ?_ | refine unrP_ret_i ?_ | refine unrP_exit_i ?_ | refine blockP_normal_i ?_ | refine blockP_ret_i ?_)
    | (with_reducible refine blockP_exit_i ?_; simp only [↓reduceIte, Nat.reduceEqDiff])
    | with_reducible refine lpP_normal_i ?_)
  all_goals (try clear zzr0; try clear Kzzr0)
  all_goals (try clear zzr1; try clear Kzzr1)
  all_goals (try clear zzr2; try clear Kzzr2)
  all_goals (try clear zzsr1; try clear Kzzsr1)
  all_goals (try clear zzr3; try clear Kzzr3)
  all_goals (try clear zzr4; try clear Kzzr4)
  all_goals (try clear zzr5; try clear Kzzr5)
  all_goals (try clear zzr6; try clear Kzzr6)
  all_goals (try clear zzsr5; try clear Kzzsr5)
  all_goals (try clear zzr7; try clear Kzzr7)
  all_goals (try clear zzr8; try clear Kzzr8)
  all_goals (try clear zzr9; try clear Kzzr9)
  all_goals (try clear zzr10; try clear Kzzr10)
  all_goals (try clear zzsr10; try clear Kzzsr10)
  all_goals (try clear zzr12; try clear Kzzr12)
  all_goals (try clear zzr13; try clear Kzzr13)
  all_goals (try clear zzsr12; try clear Kzzsr12)
  all_goals (try clear zzb1; try clear Kzzb1)
  all_goals (try clear zzsr9; try clear Kzzsr9)
  all_goals (try clear zzr16; try clear Kzzr16)
  all_goals clear hdq hdm h64 hsub hp64
  all_goals (try simp only [inR])
  all_goals (try (rcases s with ⟨k, r, q⟩))
  all_goals (try dsimp only at *)
  · omega
  · omega
  · exact ⟨⟨la.1, by omega⟩, by have := sb1 (by omega); omega, gb.2⟩
  · rw [sb1 (by omega)]; exact ⟨rfl, rfl⟩
  · exact ⟨la.1, by omega⟩
  · exact ⟨lb.1, by omega⟩
  · omega
  · exact ⟨la.1, by omega⟩
  · have h1 : x < y := Nat.lt_of_not_le fun h => by have := blen_mono h; omega
    rw [Nat.div_eq_of_lt h1, Nat.mod_eq_of_lt h1]; exact ⟨rfl, rfl⟩
  · rw [hfar (by omega), Int.tdiv_eq_ediv_of_nonneg (by omega)]; omega
  · rw [hfar (by omega), Int.tdiv_eq_ediv_of_nonneg (by omega)]; omega
  · rw [hfar (by omega), Int.tdiv_eq_ediv_of_nonneg (by omega)]; omega
  · exact ⟨⟨lb.1, by omega⟩, by omega, by omega⟩
  · refine ⟨Nat.le_refl _, List.length_replicate, lim_rep _, ?_⟩
    rw [val_rep, ← hF]
    exact ov_init (by omega) (by omega)
  · rw [hfar (by omega), half_pow, Int.toNat_natCast]
    have e1 : ((F : Int).tdiv 64 + 1).toNat = F / 64 + 1 := by rw [Int.tdiv_eq_ediv_of_nonneg (by omega)]; omega
    have e2 : (((F + 1 : Nat) : Int) - 1) = (F : Int) := by omega
    rw [e1, e2]
    (refine ent_ok [(560, 560)] rfl ?_ ?_ <;> simp only [memLe, slotsLe, AvLe, lk, ↓reduceIte, Nat.reduceEqDiff, Option.isSome_some, List.contains_cons, List.contains_nil, Bool.or_false, Nat.reduceBEq, and_self, and_true, true_and, reduceCtorEq, List.map_nil, List.map_cons, Option.some.injEq, AV.v.injEq, Value.int.injEq, Value.bool.injEq, AV.rd.injEq, AV.ow.injEq, AV.al.injEq, AV.ref.injEq] <;> (first | omega | (refine ⟨?_, ?_, ?_⟩ <;> omega)))
  all_goals (have hlr : (limbs r).length ≤ (limbs x).length := len_mono (by have := hs.2.2.2.e; omega))
  all_goals (have hlx : (limbs x).length = (blen x + 63) / 64 := len_limbs x)
  all_goals (have hld : (limbs (y * 2 ^ k / 2)).length ≤ (limbs (y * 2 ^ k)).length := len_mono (Nat.div_le_self _ _))
  all_goals (rw [len_pow hy0] at hld)
  · exact ⟨⟨lim_limbs _, by omega⟩, lim_limbs _, by omega⟩
  · exact ⟨⟨⟨lim_limbs _, by omega⟩, lim_limbs _, by omega⟩, by
      rcases Nat.lt_or_ge r (y * 2 ^ k / 2) with h | h
      · rw [cmpI_lt h] at hq; omega
      · exact h⟩
  · rw [Int.tdiv_eq_ediv_of_nonneg (by omega)]; omega
  · rw [Int.tdiv_eq_ediv_of_nonneg (by omega)]; omega
  · rw [Int.tdiv_eq_ediv_of_nonneg (by omega)]; omega
  · rw [Int.tdiv_eq_ediv_of_nonneg (by omega)]; omega
  · omega
  · rw [Int.tdiv_eq_ediv_of_nonneg (by omega)]; omega
  · rw [Int.tdiv_eq_ediv_of_nonneg (by omega)]; omega
  · exact ⟨lim_limbs _, by omega⟩
  · omega
  · obtain ⟨j, rfl⟩ : ∃ j, k = j + 1 := ⟨k - 1, by omega⟩
    have e0 : ((j + 1 : Nat) : Int) - 1 = (j : Int) := by omega
    have e1 : (j : Int).tdiv 64 = ((j / 64 : Nat) : Int) := by rw [Int.tdiv_eq_ediv_of_nonneg (by omega)]; omega
    have e2 : (j : Int).tmod 64 = ((j % 64 : Nat) : Int) := by rw [Int.tmod_eq_emod_of_nonneg (by omega)]; omega
    have e3 : min (((j % 64 : Nat) : Int) % 18446744073709551616).toNat 64 = j % 64 := by omega
    rw [half_pow] at hq ⊢
    rw [e0, e1, e2, e3, Int.toNat_natCast, pow_int (by omega)]
    have hr : y * 2 ^ j ≤ r := by
      rcases Nat.lt_or_ge r (y * 2 ^ j) with h | h
      · rw [cmpI_lt h] at hq; omega
      · exact h
    obtain ⟨b1, b2, b3⟩ := set_bit hs.2.2.1 (k := j) (by rw [hs.2.1]; omega) hs.2.2.2.m
    rw [b1]
    refine ⟨(j, r - y * 2 ^ j, q.set (j / 64) (((q.getD (j / 64) 0).toNat + 2 ^ (j % 64) : Nat) : Int)), by (refine ent_ok [(560, 560)] rfl ?_ ?_ <;> simp only [memLe, slotsLe, AvLe, lk, ↓reduceIte, Nat.reduceEqDiff, Option.isSome_some, List.contains_cons, List.contains_nil, Bool.or_false, Nat.reduceBEq, and_self, and_true, true_and, reduceCtorEq, List.map_nil, List.map_cons, Option.some.injEq, AV.v.injEq, Value.int.injEq, Value.bool.injEq, AV.rd.injEq, AV.ow.injEq, AV.al.injEq, AV.ref.injEq] <;> (first | omega | (refine ⟨?_, ?_, ?_⟩ <;> omega))), ⟨?_, ?_, ?_, ?_⟩, ?_⟩
    · dsimp only; omega
    · rw [List.length_set]; exact hs.2.1
    · exact lim_set hs.2.2.1 (nat_lim b2) _
    · dsimp only
      rw [b3]
      exact ov_yes hs.2.2.2 hr
    · dsimp only; omega
  · exact ⟨lim_limbs _, by omega⟩
  · omega
  · obtain ⟨j, rfl⟩ : ∃ j, k = j + 1 := ⟨k - 1, by omega⟩
    have e0 : ((j + 1 : Nat) : Int) - 1 = (j : Int) := by omega
    rw [half_pow] at hq ⊢
    rw [e0]
    refine ⟨(j, r, q), by (refine ent_ok [(560, 560)] rfl ?_ ?_ <;> simp only [memLe, slotsLe, AvLe, lk, ↓reduceIte, Nat.reduceEqDiff, Option.isSome_some, List.contains_cons, List.contains_nil, Bool.or_false, Nat.reduceBEq, and_self, and_true, true_and, reduceCtorEq, List.map_nil, List.map_cons, Option.some.injEq, AV.v.injEq, Value.int.injEq, Value.bool.injEq, AV.rd.injEq, AV.ow.injEq, AV.al.injEq, AV.ref.injEq] <;> (first | omega | (refine ⟨?_, ?_, ?_⟩ <;> omega))), ⟨?_, hs.2.1, hs.2.2.1, ov_no hs.2.2.2 (cmpI_neg.1 hq)⟩, ?_⟩
    · dsimp only; omega
    · dsimp only; omega
  · exact ⟨hs.2.2.1, by omega⟩
  · have h0 : k = 0 := by omega
    subst h0
    have h1 := ov_fin hs.2.2.2
    rw [h1.1, h1.2]
    exact ⟨rfl, rfl⟩
theorem sound_85 : Sound Try.prog 85 .body (norm s85) := by
  refine sound_norm (sound_body Try.func85 (show Try.f85.body = some (code Try.f85) from rfl) (by kernel_rfl) tysOk G85_ok (drawOk_ok (by kernel_rfl) tysOk G85_ok) (by kernel_rfl) fun ds p r hs hp => ?_)
  unfold s85 at hs
  split at hs
  · cases hs; exact ⟨Nat.le_of_ble_eq_true (by kernel_rfl), w85 _ _ hp⟩
  · cases hs
end Go.Proofs.AMT
set_option maxRecDepth 20000
namespace Go.Proofs.AMT
open Go.AM Go.AM.LN
attribute [local congr] bindO_congr bindS_congr bindG_congr awpOps_congr aOne_congr awp_congr aCond_congr awpD_congr dOne_congr keysB_congr nOne_congr thenP_congr blockP_congr Chk_congr Brk_congr
noncomputable def s87 : CSpec := fun ds => match ds with
  | [.sl .u64 a] => some (lim a, .one (.v (.bool (val a % 2 == 1))))
  | _ => none
theorem s87_eq (a : List Int) : norm s87 [.sl .u64 a] = some (lim a, .one (.v (.bool (val a % 2 == 1)))) := rfl
theorem s87_nil1  : norm s87 [.v (.slice none 0 0)] = some (lim ([] : List Int), .one (.v (.bool (val ([] : List Int) % 2 == 1)))) := rfl
noncomputable def G87 : Gam := []
theorem G87_ok : GamOk Try.prog G87 := gamOk_nil
set_option maxHeartbeats 20000000 in
theorem w87 (a : List Int) (hp : lim a) : awp ty G87 (code Try.f87) (retP ty Try.f87.results.toList (.one (.v (.bool (val a % 2 == 1))))) (entry 0 [.sl .u64 a]) [] := by
  unfold code
  simp only [Try.f87, Option.getD_some]
  have hO := odd_rem hp
  all_goals repeat' (first
    | ((first
       | (with_reducible refine ops_k ?_; intro X hX)
       | (with_reducible refine opsN_k ?_; intro X hX)
       | (with_reducible show awp _ _ _ _ (keepL _ _) _)
       | with_reducible refine awp_cond_k ?_
       | (with_reducible refine Brk_i ?_ ?_ <;> intro hb <;> (try simp only [hb]) <;> have hq := hb <;> try simp only [decide_eq_true_eq, decide_eq_false_iff_not, gt_iff_lt, ge_iff_le, Int.not_lt, Int.not_le, beq_iff_eq, beq_eq_false_iff_ne, Bool.not_eq_true', Bool.not_eq_false', Bool.and_eq_true, Bool.or_eq_true, Bool.and_eq_false_imp, Bool.or_eq_false_iff, ne_eq, Classical.not_not] at hq)
       | with_reducible refine retP_ret_i ?_
       | with_reducible refine retP_normal_i ?_
       | (with_reducible (show bindG _ _ _ _ _); simp only [hall])) <;> try simp only [Go.AM.S1, Go.AM.S2, Go.AM.S3, Go.AM.S4, Go.AM.S5, Go.AM.S6, Go.AM.S7, Go.AM.S8, Go.AM.S9, Nat.reduceAdd, Nat.reduceMul, Nat.reduceSub, ↓reduceIte, Nat.reduceEqDiff, Nat.reduceLT, Nat.reduceLeDiff, reduceCtorEq, Int.reduceBEq, Int.reduceBNe, Nat.reduceBEq, Int.reduceEq, Int.reduceToNat, Int.reduceLE, Int.reduceLT, Nat.reduceDiv, Int.reduceAdd, Int.reduceSub, Int.reduceMul, Int.reduceNeg, Int.reduceGT, Int.reduceGE, Nat.reduceMod, ty_3, ty_26, ty_42, hO])
    | (with_reducible refine hX _ _ ?_; clear hX X)
    | (with_reducible refine ops_nil_i ?_; try clear hall all)
    | (with_reducible refine opsN_nil_i ?_; try clear hall all)
    | (with_reducible refine hK _ _ ?_; clear hK K)
    | with_reducible refine thenP_normal_i ?_
    | (with_reducible refine zzr1 _ _ ?_; try clear zzr1 Kzzr1)
    | (with_reducible refine zzr0 _ _ ?_; try clear zzr0 Kzzr0)
    | (with_reducible refine awp_seq_l (a := .region 1 _ _) [2] ?_; intro Kzzr1 zzr1)
    | (with_reducible refine awp_seq_l (a := .region 0 _ _) [0] ?_; intro Kzzr0 zzr0)
    | (with_reducible refine awp_seq_k ?_; intro K hK)
    | (with_reducible refine awp_region_a ?_; intro all hall K hK)
    | (with_reducible refine awp_draw_n ?_ ?_; kernel_rfl; intro all hall K hK)
    | (with_reducible refine Chk_i ?_ ?_)
    | (with_reducible refine keysC_i ?_; kernel_rfl)
    | (with_reducible first | refine awp_block_i ?_ | refine awp_skip_i ?_ | refine awp_ret_i ?_ | refine awp_exit_i ?_ | refine thenP_ret_i ?_ | refine thenP_exit_i ?_ | refine lpP_ret_i ?_ | refine lpP_exit_i ?_ | refine unrP_succ_i ?_ | refine unrP_ret_i ?_ | refine unrP_exit_i ?_ | refine blockP_normal_i ?_ | refine blockP_ret_i ?_)
    | (with_reducible refine blockP_exit_i ?_; simp only [↓reduceIte, Nat.reduceEqDiff])
    | with_reducible refine lpP_normal_i ?_)
  all_goals (try clear zzr0; try clear Kzzr0)
  all_goals (try clear zzr1; try clear Kzzr1)
  all_goals (try simp only [inR])
  all_goals first
    | omega
    | (have h0 : a = [] := List.length_eq_zero_iff.1 (by omega)
       subst h0; rfl)
    | skip
theorem sound_87 : Sound Try.prog 87 .body (norm s87) := by
  refine sound_norm (sound_body Try.func87 (show Try.f87.body = some (code Try.f87) from rfl) (by kernel_rfl) tysOk G87_ok (drawOk_ok (by kernel_rfl) tysOk G87_ok) (by kernel_rfl) fun ds p r hs hp => ?_)
  unfold s87 at hs
  split at hs
  · cases hs; exact ⟨Nat.le_of_ble_eq_true (by kernel_rfl), w87 _ hp⟩
  · cases hs
end Go.Proofs.AMT
set_option maxRecDepth 20000
namespace Go.Proofs.AMT
open Go.AM Go.AM.LN
attribute [local congr] bindO_congr bindS_congr bindG_congr awpOps_congr aOne_congr awp_congr aCond_congr awpD_congr dOne_congr keysB_congr nOne_congr thenP_congr blockP_congr Chk_congr Brk_congr
noncomputable def s55 : CSpec := fun ds => match ds with
  | [.v (.int .i64 d), .v (.bool s), .sl .u64 a, .sl .u64 b] => some ((lim a ∧ limbs (val a) = a ∧ a.length ≤ 100000) ∧ (lim b ∧ limbs (val b) = b ∧ b.length ≤ 100000) ∧ val b ≠ 0, .many [.view .u64 (limbs (divS d s (val a) (val b)).1), .v (.bool (divS d s (val a) (val b)).2)])
  | _ => none
theorem s55_eq (d : Int) (s : Bool) (a : List Int) (b : List Int) : norm s55 [.v (.int .i64 d), .v (.bool s), .sl .u64 a, .sl .u64 b] = some ((lim a ∧ limbs (val a) = a ∧ a.length ≤ 100000) ∧ (lim b ∧ limbs (val b) = b ∧ b.length ≤ 100000) ∧ val b ≠ 0, .many [.view .u64 (limbs (divS d s (val a) (val b)).1), .v (.bool (divS d s (val a) (val b)).2)]) := rfl
theorem s55_nil1 (d : Int) (s : Bool)  (b : List Int) : norm s55 [.v (.int .i64 d), .v (.bool s), .v (.slice none 0 0), .sl .u64 b] = some ((lim ([] : List Int) ∧ limbs (val ([] : List Int)) = ([] : List Int) ∧ ([] : List Int).length ≤ 100000) ∧ (lim b ∧ limbs (val b) = b ∧ b.length ≤ 100000) ∧ val b ≠ 0, .many [.view .u64 (limbs (divS d s (val ([] : List Int)) (val b)).1), .v (.bool (divS d s (val ([] : List Int)) (val b)).2)]) := rfl
theorem s55_nil2 (d : Int) (s : Bool) (a : List Int)  : norm s55 [.v (.int .i64 d), .v (.bool s), .sl .u64 a, .v (.slice none 0 0)] = some ((lim a ∧ limbs (val a) = a ∧ a.length ≤ 100000) ∧ (lim ([] : List Int) ∧ limbs (val ([] : List Int)) = ([] : List Int) ∧ ([] : List Int).length ≤ 100000) ∧ val ([] : List Int) ≠ 0, .many [.view .u64 (limbs (divS d s (val a) (val ([] : List Int))).1), .v (.bool (divS d s (val a) (val ([] : List Int))).2)]) := rfl
theorem s55_nil3 (d : Int) (s : Bool)   : norm s55 [.v (.int .i64 d), .v (.bool s), .v (.slice none 0 0), .v (.slice none 0 0)] = some ((lim ([] : List Int) ∧ limbs (val ([] : List Int)) = ([] : List Int) ∧ ([] : List Int).length ≤ 100000) ∧ (lim ([] : List Int) ∧ limbs (val ([] : List Int)) = ([] : List Int) ∧ ([] : List Int).length ≤ 100000) ∧ val ([] : List Int) ≠ 0, .many [.view .u64 (limbs (divS d s (val ([] : List Int)) (val ([] : List Int))).1), .v (.bool (divS d s (val ([] : List Int)) (val ([] : List Int))).2)]) := rfl
noncomputable def G55 : Gam := [(84, .body, norm s84), (85, .body, norm s85), (86, .body, norm s86), (87, .body, norm s87), (88, .body, norm s88)]
theorem G55_ok : GamOk Try.prog G55 := gamOk_cons sound_84 (gamOk_cons sound_85 (gamOk_cons sound_86 (gamOk_cons sound_87 (gamOk_cons sound_88 gamOk_nil))))
theorem k55_84 : lk G55 84 = some (.body, norm s84) := rfl
theorem k55_85 : lk G55 85 = some (.body, norm s85) := rfl
theorem k55_86 : lk G55 86 = some (.body, norm s86) := rfl
theorem k55_87 : lk G55 87 = some (.body, norm s87) := rfl
theorem k55_88 : lk G55 88 = some (.body, norm s88) := rfl
set_option maxHeartbeats 20000000 in
theorem w55 (d : Int) (s : Bool) (a : List Int) (b : List Int) (hp : (lim a ∧ limbs (val a) = a ∧ a.length ≤ 100000) ∧ (lim b ∧ limbs (val b) = b ∧ b.length ≤ 100000) ∧ val b ≠ 0) : awp ty G55 (code Try.f55) (retP ty Try.f55.results.toList (.many [.view .u64 (limbs (divS d s (val a) (val b)).1), .v (.bool (divS d s (val a) (val b)).2)])) (entry 0 [.v (.int .i64 d), .v (.bool s), .sl .u64 a, .sl .u64 b]) [] := by
  unfold code
  simp only [Try.f55, Option.getD_some]
  obtain ⟨la, lb, hy0⟩ := hp
  generalize hx : val a = x at *
  generalize hy : val b = y at *
  have hml := Nat.mod_lt x (Nat.pos_of_ne_zero hy0)
  obtain ⟨H, hH'⟩ : ∃ H, cmpI (x % y) (y - x % y) = H := ⟨_, rfl⟩
  have hH : cmpI (x % y * 2) y = H := (cmp_half (by omega)).trans hH'
  have l1 := len_mono (Nat.div_le_self x y)
  have lx := congrArg List.length la.2.1
  have ly := congrArg List.length lb.2.1
  have l2 := len_mono (Nat.le_of_lt hml)
  have l3 : (limbs (x % y * 2)).length ≤ (limbs (y * 2 ^ 1)).length := len_mono (Nat.mul_le_mul_right _ (Nat.le_of_lt hml))
  have l4 := len_shift (a := y) (s := 1) (by omega)
  have hr : (limbs (x % y)).length ≠ 0 → ¬ x % y = 0 := fun h h0 => h (len_zero.2 h0)
  all_goals repeat' (first
    | ((first
       | (with_reducible refine ops_k ?_; intro X hX)
       | (with_reducible refine opsN_k ?_; intro X hX)
       | (with_reducible show awp _ _ _ _ (keepL _ _) _)
       | with_reducible refine awp_cond_k ?_
       | (with_reducible refine Brk_i ?_ ?_ <;> intro hb <;> (try simp only [hb]) <;> have hq := hb <;> try simp only [decide_eq_true_eq, decide_eq_false_iff_not, gt_iff_lt, ge_iff_le, Int.not_lt, Int.not_le, beq_iff_eq, beq_eq_false_iff_ne, Bool.not_eq_true', Bool.not_eq_false', Bool.and_eq_true, Bool.or_eq_true, Bool.and_eq_false_imp, Bool.or_eq_false_iff, ne_eq, Classical.not_not] at hq)
       | with_reducible refine retP_ret_i ?_
       | with_reducible refine retP_normal_i ?_
       | (with_reducible (show bindG _ _ _ _ _); simp only [hall])) <;> try simp only [Go.AM.S1, Go.AM.S2, Go.AM.S3, Go.AM.S4, Go.AM.S5, Go.AM.S6, Go.AM.S7, Go.AM.S8, Go.AM.S9, Nat.reduceAdd, Nat.reduceMul, Nat.reduceSub, ↓reduceIte, Nat.reduceEqDiff, Nat.reduceLT, Nat.reduceLeDiff, reduceCtorEq, Int.reduceBEq, Int.reduceBNe, Nat.reduceBEq, Int.reduceEq, Int.reduceToNat, Int.reduceLE, Int.reduceLT, Nat.reduceDiv, Int.reduceAdd, Int.reduceSub, Int.reduceMul, Int.reduceNeg, Int.reduceGT, Int.reduceGE, Nat.reduceMod, k55_84, s84_eq, s84_nil1, s84_nil2, s84_nil3, k55_85, s85_eq, s85_nil1, s85_nil2, s85_nil3, k55_86, s86_eq, s86_nil1, k55_87, s87_eq, s87_nil1, k55_88, s88_eq, s88_nil1, s88_nil2, s88_nil3, ty_3, ty_4, ty_26, ty_42, toInts, hx, hy, val_limbs, Int.toNat_one, Nat.pow_one, hH, sz_one])
    | (with_reducible refine hX _ _ ?_; clear hX X)
    | (with_reducible refine ops_nil_i ?_; try clear hall all)
    | (with_reducible refine opsN_nil_i ?_; try clear hall all)
    | (with_reducible refine hK _ _ ?_; clear hK K)
    | with_reducible refine thenP_normal_i ?_
    | (with_reducible refine zzr17 _ _ ?_; try clear zzr17 Kzzr17)
    | (with_reducible refine zzsr15 _ _ ?_; try clear zzsr15 Kzzsr15)
    | (with_reducible refine zzr15 _ _ ?_; try clear zzr15 Kzzr15)
    | (with_reducible refine zzsr6 _ _ ?_; try clear zzsr6 Kzzsr6)
    | (with_reducible refine zzr13 _ _ ?_; try clear zzr13 Kzzr13)
    | (with_reducible refine zzr11 _ _ ?_; try clear zzr11 Kzzr11)
    | (with_reducible refine zzr9 _ _ ?_; try clear zzr9 Kzzr9)
    | (with_reducible refine zzr7 _ _ ?_; try clear zzr7 Kzzr7)
    | (with_reducible refine zzr6 _ _ ?_; try clear zzr6 Kzzr6)
    | (with_reducible refine zzr5 _ _ ?_; try clear zzr5 Kzzr5)
    | (with_reducible refine zzr4 _ _ ?_; try clear zzr4 Kzzr4)
    | (with_reducible refine zzsr2 _ _ ?_; try clear zzsr2 Kzzsr2)
    | (with_reducible refine zzr3 _ _ ?_; try clear zzr3 Kzzr3)
    | (with_reducible refine zzr2 _ _ ?_; try clear zzr2 Kzzr2)
    | (with_reducible refine zzr1 _ _ ?_; try clear zzr1 Kzzr1)
    | (with_reducible refine zzr0 _ _ ?_; try clear zzr0 Kzzr0)
    | (with_reducible refine awp_seq_l (a := .region 17 _ _) [8, 9] ?_; intro Kzzr17 zzr17)
    | (with_reducible refine awp_seq_l (a := .seq (.region 15 _ _) _) [10] ?_; intro Kzzsr15 zzsr15)
    | (with_reducible refine awp_seq_l (a := .region 15 _ _) [10, 52] ?_; intro Kzzr15 zzr15)
    | (with_reducible refine awp_seq_l (a := .seq (.region 6 _ _) _) [10, 13] ?_; intro Kzzsr6 zzsr6)
    | (with_reducible refine awp_seq_l (a := .region 13 _ _) [1, 10, 13, 49] ?_; intro Kzzr13 zzr13)
    | (with_reducible refine awp_seq_l (a := .region 11 _ _) [1, 10, 13, 28, 45] ?_; intro Kzzr11 zzr11)
    | (with_reducible refine awp_seq_l (a := .region 9 _ _) [1, 10, 12, 13, 28, 41] ?_; intro Kzzr9 zzr9)
    | (with_reducible refine awp_seq_l (a := .region 7 _ _) [1, 10, 12, 13, 28, 29] ?_; intro Kzzr7 zzr7)
    | (with_reducible refine awp_seq_l (a := .region 6 _ _) [1, 10, 12, 13, 28] ?_; intro Kzzr6 zzr6)
    | (with_reducible refine awp_seq_l (a := .region 5 _ _) [0, 1, 10, 12, 13] ?_; intro Kzzr5 zzr5)
    | (with_reducible refine awp_seq_l (a := .region 4 _ _) [0, 1, 10, 12] ?_; intro Kzzr4 zzr4)
    | (with_reducible refine awp_seq_l (a := .seq (.region 2 _ _) _) [0, 1, 3, 10, 11] ?_; intro Kzzsr2 zzsr2)
    | (with_reducible refine awp_seq_l (a := .region 3 _ _) [8, 9] ?_; intro Kzzr3 zzr3)
    | (with_reducible refine awp_seq_l (a := .region 2 _ _) [0, 1, 3, 10, 11, 22] ?_; intro Kzzr2 zzr2)
    | (with_reducible refine awp_seq_l (a := .region 1 _ _) [0, 1, 3, 10, 11] ?_; intro Kzzr1 zzr1)
    | (with_reducible refine awp_seq_l (a := .region 0 _ _) [0, 1, 2, 3] ?_; intro Kzzr0 zzr0)
    | (with_reducible refine awp_seq_k ?_; intro K hK)
    | (with_reducible refine awp_region_a ?_; intro all hall K hK)
    | (with_reducible refine awp_draw_n ?_ ?_; kernel_rfl; intro all hall K hK)
    | (with_reducible refine Chk_i ?_ ?_)
    | (with_reducible refine keysC_i ?_; kernel_rfl)
    | (with_reducible first | refine awp_block_i ?_ | refine awp_skip_i ?_ | refine awp_ret_i ?_ | refine awp_exit_i ?_ | refine thenP_ret_i ?_ | refine thenP_exit_i ?_ | refine lpP_ret_i ?_ | refine lpP_exit_i ?_ | refine unrP_succ_i ?_ | refine unrP_ret_i ?_ | refine unrP_exit_i ?_ | refine blockP_normal_i ?_ | refine blockP_ret_i ?_)
    | (with_reducible refine blockP_exit_i ?_; simp only [↓reduceIte, Nat.reduceEqDiff])
    | with_reducible refine lpP_normal_i ?_)
  all_goals (try clear zzr0; try clear Kzzr0)
  all_goals (try clear zzr1; try clear Kzzr1)
  all_goals (try clear zzr2; try clear Kzzr2)
  all_goals (try clear zzr3; try clear Kzzr3)
  all_goals (try clear zzsr2; try clear Kzzsr2)
  all_goals (try clear zzr4; try clear Kzzr4)
  all_goals (try clear zzr5; try clear Kzzr5)
  all_goals (try clear zzr6; try clear Kzzr6)
  all_goals (try clear zzr7; try clear Kzzr7)
  all_goals (try clear zzr9; try clear Kzzr9)
  all_goals (try clear zzr11; try clear Kzzr11)
  all_goals (try clear zzr13; try clear Kzzr13)
  all_goals (try clear zzsr6; try clear Kzzsr6)
  all_goals (try clear zzr15; try clear Kzzr15)
  all_goals (try clear zzsr15; try clear Kzzsr15)
  all_goals (try clear zzr17; try clear Kzzr17)
  all_goals (try simp only [inR])
  all_goals first
    | omega
    | exact ⟨⟨la.1, by omega⟩, ⟨lb.1, by omega⟩, hy0⟩
    | (rw [divS_ex (len_zero.1 (by omega))]; exact ⟨rfl, rfl⟩)
    | exact ⟨lim_limbs _, by omega⟩
    | exact ⟨⟨lim_limbs _, by omega⟩, lb.1, by omega⟩
    | exact lim_limbs _
    | exact ⟨⟨lim_limbs _, by omega⟩, lim_one ⟨by omega, by omega⟩⟩
    | (rw [divS_up (hr (by omega)) (by rw [hH']; unfold upS; simp_all)]; exact ⟨rfl, rfl⟩)
    | (rw [divS_dn (hr (by omega)) (by rw [hH']; unfold upS; simp_all)]; exact ⟨rfl, rfl⟩)
    | skip
theorem sound_55 : Sound Try.prog 55 .body (norm s55) := by
  refine sound_norm (sound_body Try.func55 (show Try.f55.body = some (code Try.f55) from rfl) (by kernel_rfl) tysOk G55_ok (drawOk_ok (by kernel_rfl) tysOk G55_ok) (by kernel_rfl) fun ds p r hs hp => ?_)
  unfold s55 at hs
  split at hs
  · cases hs; exact ⟨Nat.le_of_ble_eq_true (by kernel_rfl), w55 _ _ _ _ hp⟩
  · cases hs
end Go.Proofs.AMT
set_option maxRecDepth 20000
namespace Go.Proofs.AMT
open Go.AM Go.AM.LN
attribute [local congr] bindO_congr bindS_congr bindG_congr awpOps_congr aOne_congr awp_congr aCond_congr awpD_congr dOne_congr keysB_congr nOne_congr thenP_congr blockP_congr Chk_congr Brk_congr
noncomputable def s58 : CSpec := fun ds => match ds with
  | [.v (.int .i64 n), .v (.bool s)] => some (1 ≤ n ∧ n ≤ 6, .many [.v (.agg #[.int .u64 (w4 (packS n 1 s false (2 ^ (fp n).toNat - 1) (fe n + 1 - fp n)) 0), .int .u64 (w4 (packS n 1 s false (2 ^ (fp n).toNat - 1) (fe n + 1 - fp n)) 1), .int .u64 (w4 (packS n 1 s false (2 ^ (fp n).toNat - 1) (fe n + 1 - fp n)) 2), .int .u64 (w4 (packS n 1 s false (2 ^ (fp n).toNat - 1) (fe n + 1 - fp n)) 3)]), .v (.int .i64 0)])
  | _ => none
theorem s58_eq (n : Int) (s : Bool) : norm s58 [.v (.int .i64 n), .v (.bool s)] = some (1 ≤ n ∧ n ≤ 6, .many [.v (.agg #[.int .u64 (w4 (packS n 1 s false (2 ^ (fp n).toNat - 1) (fe n + 1 - fp n)) 0), .int .u64 (w4 (packS n 1 s false (2 ^ (fp n).toNat - 1) (fe n + 1 - fp n)) 1), .int .u64 (w4 (packS n 1 s false (2 ^ (fp n).toNat - 1) (fe n + 1 - fp n)) 2), .int .u64 (w4 (packS n 1 s false (2 ^ (fp n).toNat - 1) (fe n + 1 - fp n)) 3)]), .v (.int .i64 0)]) := rfl
noncomputable def G58 : Gam := [(29, .body, norm s29), (51, .body, norm s51), (52, .body, norm s52), (60, .body, norm s60), (90, .body, norm s90), (91, .body, norm s91)]
theorem G58_ok : GamOk Try.prog G58 := gamOk_cons sound_29 (gamOk_cons sound_51 (gamOk_cons sound_52 (gamOk_cons sound_60 (gamOk_cons sound_90 (gamOk_cons sound_91 gamOk_nil)))))
theorem k58_29 : lk G58 29 = some (.body, norm s29) := rfl
theorem k58_51 : lk G58 51 = some (.body, norm s51) := rfl
theorem k58_52 : lk G58 52 = some (.body, norm s52) := rfl
theorem k58_60 : lk G58 60 = some (.body, norm s60) := rfl
theorem k58_90 : lk G58 90 = some (.body, norm s90) := rfl
theorem k58_91 : lk G58 91 = some (.body, norm s91) := rfl
set_option maxHeartbeats 20000000 in
theorem w58 (n : Int) (s : Bool) (hp : 1 ≤ n ∧ n ≤ 6) : awp ty G58 (code Try.f58) (retP ty Try.f58.results.toList (.many [.v (.agg #[.int .u64 (w4 (packS n 1 s false (2 ^ (fp n).toNat - 1) (fe n + 1 - fp n)) 0), .int .u64 (w4 (packS n 1 s false (2 ^ (fp n).toNat - 1) (fe n + 1 - fp n)) 1), .int .u64 (w4 (packS n 1 s false (2 ^ (fp n).toNat - 1) (fe n + 1 - fp n)) 2), .int .u64 (w4 (packS n 1 s false (2 ^ (fp n).toNat - 1) (fe n + 1 - fp n)) 3)]), .v (.int .i64 0)])) (entry 0 [.v (.int .i64 n), .v (.bool s)]) [] := by
  unfold code
  simp only [Try.f58, Option.getD_some]
  obtain ⟨F1, F2, F3, F4, F5, F6, F7, F8, F9, F10, F11⟩ := bfmt hp
  have hI := infoV_in (n := n) (by omega)
  have gk : (decide (n ≥ 1) && decide (n ≤ 6)) = true := by rw [decide_eq_true (by omega : n ≥ 1), decide_eq_true (by omega : n ≤ 6)]; rfl
  have p2 : 2 ^ (fp n).toNat ≤ 2 ^ 241 := Nat.pow_le_pow_right (by omega) (by omega)
  have p3 : (2 : Nat) ^ 241 < 2 ^ 256 := by decide
  have p1 := Nat.two_pow_pos (fp n).toNat
  have hM := V4_w4 (n := 2 ^ (fp n).toNat - 1) (by omega)
  have hbl := blen_ones (fp n).toNat
  have i2 : (2 : Int).toNat = 2 := rfl
  all_goals repeat' (first
    | ((first
       | (with_reducible refine ops_k ?_; intro X hX)
       | (with_reducible refine opsN_k ?_; intro X hX)
       | (with_reducible show awp _ _ _ _ (keepL _ _) _)
       | (with_reducible refine hX _ _ _ _ ?_; clear hX X)
       | (with_reducible refine opsD_k ?_; intro X hX)
       | with_reducible refine awp_cond_k ?_
       | (with_reducible refine Brk_i ?_ ?_ <;> intro hb <;> (try simp only [hb]) <;> have hq := hb <;> try simp only [decide_eq_true_eq, decide_eq_false_iff_not, gt_iff_lt, ge_iff_le, Int.not_lt, Int.not_le, beq_iff_eq, beq_eq_false_iff_ne, Bool.not_eq_true', Bool.not_eq_false', Bool.and_eq_true, Bool.or_eq_true, Bool.and_eq_false_imp, Bool.or_eq_false_iff, ne_eq, Classical.not_not] at hq)
       | with_reducible refine retP_ret_i ?_
       | with_reducible refine retP_normal_i ?_
       | (with_reducible (show bindG _ _ _ _ _); simp only [hall])) <;> try simp only [Go.AM.S1, Go.AM.S2, Go.AM.S3, Go.AM.S4, Go.AM.S5, Go.AM.S6, Go.AM.S7, Go.AM.S8, Go.AM.S9, Nat.reduceAdd, Nat.reduceMul, Nat.reduceSub, ↓reduceIte, Nat.reduceEqDiff, Nat.reduceLT, Nat.reduceLeDiff, reduceCtorEq, Int.reduceBEq, Int.reduceBNe, Nat.reduceBEq, Int.reduceEq, Int.reduceToNat, Int.reduceLE, Int.reduceLT, Nat.reduceDiv, Int.reduceAdd, Int.reduceSub, Int.reduceMul, Int.reduceNeg, Int.reduceGT, Int.reduceGE, Nat.reduceMod, k58_29, s29_eq, k58_51, s51_eq, k58_52, s52_eq, k58_60, s60_eq, s60_nil1, k58_90, s90_eq, s90_nil1, s90_nil2, s90_nil3, k58_91, s91_eq, ty_3, ty_4, ty_9, ty_26, ty_28, ty_42, ty_53, ty_91, hI, gk, infoT, toInts, val_limbs, sz_one, Int.toNat_one, limbs_getD, hM, i2])
    | (with_reducible refine hX _ _ ?_; clear hX X)
    | (with_reducible refine opsD_nil_i ?_; try clear hall all)
    | (with_reducible refine keysB_i ?_; kernel_rfl)
    | ((with_reducible show clashK _ _ _ = true); kernel_rfl)
    | (with_reducible refine ops_nil_i ?_; try clear hall all)
    | (with_reducible refine opsN_nil_i ?_; try clear hall all)
    | (with_reducible refine hK _ _ ?_; clear hK K)
    | with_reducible refine thenP_normal_i ?_
    | (with_reducible refine zzr4 _ _ ?_; try clear zzr4 Kzzr4)
    | (with_reducible refine zzr3 _ _ ?_; try clear zzr3 Kzzr3)
    | (with_reducible refine zzsr1 _ _ ?_; try clear zzsr1 Kzzsr1)
    | (with_reducible refine zzr2 _ _ ?_; try clear zzr2 Kzzr2)
    | (with_reducible refine zzr1 _ _ ?_; try clear zzr1 Kzzr1)
    | (with_reducible refine zzr0 _ _ ?_; try clear zzr0 Kzzr0)
    | (with_reducible refine awp_seq_l (a := .region 4 _ _) [4, 5] ?_; intro Kzzr4 zzr4)
    | (with_reducible refine awp_seq_l (a := .region 3 _ _) [0, 1, 4, 6] ?_; intro Kzzr3 zzr3)
    | (with_reducible refine awp_seq_l (a := .seq (.region 1 _ _) _) [0, 1, 4] ?_; intro Kzzsr1 zzsr1)
    | (with_reducible refine awp_seq_l (a := .region 2 _ _) [4, 5] ?_; intro Kzzr2 zzr2)
    | (with_reducible refine awp_seq_l (a := .region 1 _ _) [0, 1, 4, 10] ?_; intro Kzzr1 zzr1)
    | (with_reducible refine awp_seq_l (a := .region 0 _ _) [0, 1, 4] ?_; intro Kzzr0 zzr0)
    | (with_reducible refine awp_seq_k ?_; intro K hK)
    | (with_reducible refine awp_region_a ?_; intro all hall K hK)
    | (with_reducible refine awp_draw_a (id := 4) ?_ ?_; kernel_rfl; intro all hall K hK)
    | (with_reducible refine awp_draw_n ?_ ?_; kernel_rfl; intro all hall K hK)
    | (with_reducible refine Chk_i ?_ ?_)
    | (with_reducible refine keysC_i ?_; kernel_rfl)
    | (with_reducible first | refine awp_block_i ?_ | refine awp_skip_i ?_ | refine awp_ret_i ?_ | refine awp_exit_i ?_ | refine thenP_ret_i ?_ | refine thenP_exit_i ?_ | refine lpP_ret_i ?_ | refine lpP_exit_i ?_ | refine unrP_succ_i ?_ | refine unrP_ret_i ?_ | refine unrP_exit_i ?_ | refine blockP_normal_i ?_ | refine blockP_ret_i ?_)
    | (with_reducible refine blockP_exit_i ?_; simp only [↓reduceIte, Nat.reduceEqDiff])
    | with_reducible refine lpP_normal_i ?_)
  all_goals (try clear zzr0; try clear Kzzr0)
  all_goals (try clear zzr1; try clear Kzzr1)
  all_goals (try clear zzr2; try clear Kzzr2)
  all_goals (try clear zzsr1; try clear Kzzsr1)
  all_goals (try clear zzr3; try clear Kzzr3)
  all_goals (try clear zzr4; try clear Kzzr4)
  all_goals clear hM
  all_goals (try simp only [inR])
  all_goals first
    | omega
    | exact ⟨⟨⟨lim_limbs _, Nat.le_trans (len4 (by omega)) (by omega)⟩, lim_one ⟨by omega, by omega⟩⟩, p1⟩
    | exact ⟨hp, ⟨w4_lim _ _, w4_lim _ _, w4_lim _ _, w4_lim _ _⟩, .inl ⟨rfl, rfl, by omega, by omega, .inl (by omega)⟩⟩
    | skip
theorem sound_58 : Sound Try.prog 58 .body (norm s58) := by
  refine sound_norm (sound_body Try.func58 (show Try.f58.body = some (code Try.f58) from rfl) (by kernel_rfl) tysOk G58_ok (drawOk_ok (by kernel_rfl) tysOk G58_ok) (by kernel_rfl) fun ds p r hs hp => ?_)
  unfold s58 at hs
  split at hs
  · cases hs; exact ⟨Nat.le_of_ble_eq_true (by kernel_rfl), w58 _ _ hp⟩
  · cases hs
end Go.Proofs.AMT
set_option maxRecDepth 20000
namespace Go.Proofs.AMT
open Go.AM Go.AM.LN
attribute [local congr] bindO_congr bindS_congr bindG_congr awpOps_congr aOne_congr awp_congr aCond_congr awpD_congr dOne_congr keysB_congr nOne_congr thenP_congr blockP_congr Chk_congr Brk_congr
noncomputable def s59 : CSpec := fun ds => match ds with
  | [.v (.int .i64 d), .v (.bool s)] => some (0 ≤ d ∧ d ≤ 4, .one (.v (.bool (infS d s))))
  | _ => none
theorem s59_eq (d : Int) (s : Bool) : norm s59 [.v (.int .i64 d), .v (.bool s)] = some (0 ≤ d ∧ d ≤ 4, .one (.v (.bool (infS d s)))) := rfl
noncomputable def G59 : Gam := []
theorem G59_ok : GamOk Try.prog G59 := gamOk_nil
set_option maxHeartbeats 20000000 in
theorem w59 (d : Int) (s : Bool) (hp : 0 ≤ d ∧ d ≤ 4) : awp ty G59 (code Try.f59) (retP ty Try.f59.results.toList (.one (.v (.bool (infS d s))))) (entry 0 [.v (.int .i64 d), .v (.bool s)]) [] := by
  unfold code
  simp only [Try.f59, Option.getD_some]
  rw [← far_inf hp]
  all_goals repeat' (first
    | ((first
       | (with_reducible refine ops_k ?_; intro X hX)
       | (with_reducible refine opsN_k ?_; intro X hX)
       | (with_reducible show awp _ _ _ _ (keepL _ _) _)
       | with_reducible refine awp_cond_k ?_
       | (with_reducible refine Brk_i ?_ ?_ <;> intro hb <;> (try simp only [hb]) <;> have hq := hb <;> try simp only [decide_eq_true_eq, decide_eq_false_iff_not, gt_iff_lt, ge_iff_le, Int.not_lt, Int.not_le, beq_iff_eq, beq_eq_false_iff_ne, Bool.not_eq_true', Bool.not_eq_false', Bool.and_eq_true, Bool.or_eq_true, Bool.and_eq_false_imp, Bool.or_eq_false_iff, ne_eq, Classical.not_not] at hq)
       | with_reducible refine retP_ret_i ?_
       | with_reducible refine retP_normal_i ?_
       | (with_reducible (show bindG _ _ _ _ _); simp only [hall])) <;> try simp only [Go.AM.S1, Go.AM.S2, Go.AM.S3, Go.AM.S4, Go.AM.S5, Go.AM.S6, Go.AM.S7, Go.AM.S8, Go.AM.S9, Nat.reduceAdd, Nat.reduceMul, Nat.reduceSub, ↓reduceIte, Nat.reduceEqDiff, Nat.reduceLT, Nat.reduceLeDiff, reduceCtorEq, Int.reduceBEq, Int.reduceBNe, Nat.reduceBEq, Int.reduceEq, Int.reduceToNat, Int.reduceLE, Int.reduceLT, Nat.reduceDiv, Int.reduceAdd, Int.reduceSub, Int.reduceMul, Int.reduceNeg, Int.reduceGT, Int.reduceGE, Nat.reduceMod, ty_3, ty_4])
    | (with_reducible refine hX _ _ ?_; clear hX X)
    | (with_reducible refine ops_nil_i ?_; try clear hall all)
    | (with_reducible refine opsN_nil_i ?_; try clear hall all)
    | (with_reducible refine hK _ _ ?_; clear hK K)
    | with_reducible refine thenP_normal_i ?_
    | (with_reducible refine zzr8 _ _ ?_; try clear zzr8 Kzzr8)
    | (with_reducible refine zzsr1 _ _ ?_; try clear zzsr1 Kzzsr1)
    | (with_reducible refine zzr3 _ _ ?_; try clear zzr3 Kzzr3)
    | (with_reducible refine zzr5 _ _ ?_; try clear zzr5 Kzzr5)
    | (with_reducible refine zzr7 _ _ ?_; try clear zzr7 Kzzr7)
    | (with_reducible refine zzr6 _ _ ?_; try clear zzr6 Kzzr6)
    | (with_reducible refine zzr4 _ _ ?_; try clear zzr4 Kzzr4)
    | (with_reducible refine zzr2 _ _ ?_; try clear zzr2 Kzzr2)
    | (with_reducible refine zzr1 _ _ ?_; try clear zzr1 Kzzr1)
    | (with_reducible refine zzr0 _ _ ?_; try clear zzr0 Kzzr0)
    | (with_reducible refine awp_seq_l (a := .region 8 _ _) [4] ?_; intro Kzzr8 zzr8)
    | (with_reducible refine awp_seq_l (a := .seq (.region 1 _ _) _) [] ?_; intro Kzzsr1 zzsr1)
    | (with_reducible refine awp_seq_l (a := .region 3 _ _) [4] ?_; intro Kzzr3 zzr3)
    | (with_reducible refine awp_seq_l (a := .region 5 _ _) [4] ?_; intro Kzzr5 zzr5)
    | (with_reducible refine awp_seq_l (a := .region 7 _ _) [4] ?_; intro Kzzr7 zzr7)
    | (with_reducible refine awp_seq_l (a := .region 6 _ _) [1, 12] ?_; intro Kzzr6 zzr6)
    | (with_reducible refine awp_seq_l (a := .region 4 _ _) [1, 5, 8] ?_; intro Kzzr4 zzr4)
    | (with_reducible refine awp_seq_l (a := .region 2 _ _) [1, 5, 6] ?_; intro Kzzr2 zzr2)
    | (with_reducible refine awp_seq_l (a := .region 1 _ _) [1, 5] ?_; intro Kzzr1 zzr1)
    | (with_reducible refine awp_seq_l (a := .region 0 _ _) [0, 1] ?_; intro Kzzr0 zzr0)
    | (with_reducible refine awp_seq_k ?_; intro K hK)
    | (with_reducible refine awp_region_a ?_; intro all hall K hK)
    | (with_reducible refine awp_draw_n ?_ ?_; kernel_rfl; intro all hall K hK)
    | (with_reducible refine Chk_i ?_ ?_)
    | (with_reducible refine keysC_i ?_; kernel_rfl)
    | (with_reducible first | refine awp_block_i ?_ | refine awp_skip_i ?_ | refine awp_ret_i ?_ | refine awp_exit_i ?_ | refine thenP_ret_i ?_ | refine thenP_exit_i ?_ | refine lpP_ret_i ?_ | refine lpP_exit_i ?_ | refine unrP_succ_i ?_ | refine unrP_ret_i ?_ | refine unrP_exit_i ?_ | refine blockP_normal_i ?_ | refine blockP_ret_i ?_)
    | (with_reducible refine blockP_exit_i ?_; simp only [↓reduceIte, Nat.reduceEqDiff])
    | with_reducible refine lpP_normal_i ?_)
  all_goals (try clear zzr0; try clear Kzzr0)
  all_goals (try clear zzr1; try clear Kzzr1)
  all_goals (try clear zzr2; try clear Kzzr2)
  all_goals (try clear zzr4; try clear Kzzr4)
  all_goals (try clear zzr6; try clear Kzzr6)
  all_goals (try clear zzr7; try clear Kzzr7)
  all_goals (try clear zzr5; try clear Kzzr5)
  all_goals (try clear zzr3; try clear Kzzr3)
  all_goals (try clear zzsr1; try clear Kzzsr1)
  all_goals (try clear zzr8; try clear Kzzr8)
  all_goals first
    | omega
    | (rw [if_pos hq]; done)
    | (rw [if_neg (by omega), if_pos hq]; done)
    | (rw [if_neg (by omega), if_neg (by omega), if_pos hq]; done)
    | (rw [if_neg (by omega), if_neg (by omega), if_neg (by omega)]; done)
    | skip
theorem sound_59 : Sound Try.prog 59 .body (norm s59) := by
  refine sound_norm (sound_body Try.func59 (show Try.f59.body = some (code Try.f59) from rfl) (by kernel_rfl) tysOk G59_ok (drawOk_ok (by kernel_rfl) tysOk G59_ok) (by kernel_rfl) fun ds p r hs hp => ?_)
  unfold s59 at hs
  split at hs
  · cases hs; exact ⟨Nat.le_of_ble_eq_true (by kernel_rfl), w59 _ _ hp⟩
  · cases hs
end Go.Proofs.AMT
set_option maxRecDepth 20000
namespace Go.Proofs.AMT
open Go.AM Go.AM.LN
attribute [local congr] bindO_congr bindS_congr bindG_congr awpOps_congr aOne_congr awp_congr aCond_congr awpD_congr dOne_congr keysB_congr nOne_congr thenP_congr blockP_congr Chk_congr Brk_congr
noncomputable def s32 : CSpec := fun ds => match ds with
  | [.v (.int .i64 n), .v (.int .i64 d), .v (.bool s), .sl .u64 a, .sl .u64 b, .v (.int .i64 e)] => some ((1 ≤ n ∧ n ≤ 6) ∧ (0 ≤ d ∧ d ≤ 4) ∧ (lim a ∧ limbs (val a) = a ∧ a.length ≤ 800) ∧ (lim b ∧ limbs (val b) = b ∧ b.length ≤ 800) ∧ val b ≠ 0, .many [.v (.agg #[.int .u64 (w4 (rndV n d s (val a) (val b) e) 0), .int .u64 (w4 (rndV n d s (val a) (val b) e) 1), .int .u64 (w4 (rndV n d s (val a) (val b) e) 2), .int .u64 (w4 (rndV n d s (val a) (val b) e) 3)]), .v (.int .i64 (rndF n d s (val a) (val b) e))])
  | _ => none
theorem s32_eq (n : Int) (d : Int) (s : Bool) (a : List Int) (b : List Int) (e : Int) : norm s32 [.v (.int .i64 n), .v (.int .i64 d), .v (.bool s), .sl .u64 a, .sl .u64 b, .v (.int .i64 e)] = some ((1 ≤ n ∧ n ≤ 6) ∧ (0 ≤ d ∧ d ≤ 4) ∧ (lim a ∧ limbs (val a) = a ∧ a.length ≤ 800) ∧ (lim b ∧ limbs (val b) = b ∧ b.length ≤ 800) ∧ val b ≠ 0, .many [.v (.agg #[.int .u64 (w4 (rndV n d s (val a) (val b) e) 0), .int .u64 (w4 (rndV n d s (val a) (val b) e) 1), .int .u64 (w4 (rndV n d s (val a) (val b) e) 2), .int .u64 (w4 (rndV n d s (val a) (val b) e) 3)]), .v (.int .i64 (rndF n d s (val a) (val b) e))]) := rfl
theorem s32_nil1 (n : Int) (d : Int) (s : Bool)  (b : List Int) (e : Int) : norm s32 [.v (.int .i64 n), .v (.int .i64 d), .v (.bool s), .v (.slice none 0 0), .sl .u64 b, .v (.int .i64 e)] = some ((1 ≤ n ∧ n ≤ 6) ∧ (0 ≤ d ∧ d ≤ 4) ∧ (lim ([] : List Int) ∧ limbs (val ([] : List Int)) = ([] : List Int) ∧ ([] : List Int).length ≤ 800) ∧ (lim b ∧ limbs (val b) = b ∧ b.length ≤ 800) ∧ val b ≠ 0, .many [.v (.agg #[.int .u64 (w4 (rndV n d s (val ([] : List Int)) (val b) e) 0), .int .u64 (w4 (rndV n d s (val ([] : List Int)) (val b) e) 1), .int .u64 (w4 (rndV n d s (val ([] : List Int)) (val b) e) 2), .int .u64 (w4 (rndV n d s (val ([] : List Int)) (val b) e) 3)]), .v (.int .i64 (rndF n d s (val ([] : List Int)) (val b) e))]) := rfl
theorem s32_nil2 (n : Int) (d : Int) (s : Bool) (a : List Int)  (e : Int) : norm s32 [.v (.int .i64 n), .v (.int .i64 d), .v (.bool s), .sl .u64 a, .v (.slice none 0 0), .v (.int .i64 e)] = some ((1 ≤ n ∧ n ≤ 6) ∧ (0 ≤ d ∧ d ≤ 4) ∧ (lim a ∧ limbs (val a) = a ∧ a.length ≤ 800) ∧ (lim ([] : List Int) ∧ limbs (val ([] : List Int)) = ([] : List Int) ∧ ([] : List Int).length ≤ 800) ∧ val ([] : List Int) ≠ 0, .many [.v (.agg #[.int .u64 (w4 (rndV n d s (val a) (val ([] : List Int)) e) 0), .int .u64 (w4 (rndV n d s (val a) (val ([] : List Int)) e) 1), .int .u64 (w4 (rndV n d s (val a) (val ([] : List Int)) e) 2), .int .u64 (w4 (rndV n d s (val a) (val ([] : List Int)) e) 3)]), .v (.int .i64 (rndF n d s (val a) (val ([] : List Int)) e))]) := rfl
theorem s32_nil3 (n : Int) (d : Int) (s : Bool)   (e : Int) : norm s32 [.v (.int .i64 n), .v (.int .i64 d), .v (.bool s), .v (.slice none 0 0), .v (.slice none 0 0), .v (.int .i64 e)] = some ((1 ≤ n ∧ n ≤ 6) ∧ (0 ≤ d ∧ d ≤ 4) ∧ (lim ([] : List Int) ∧ limbs (val ([] : List Int)) = ([] : List Int) ∧ ([] : List Int).length ≤ 800) ∧ (lim ([] : List Int) ∧ limbs (val ([] : List Int)) = ([] : List Int) ∧ ([] : List Int).length ≤ 800) ∧ val ([] : List Int) ≠ 0, .many [.v (.agg #[.int .u64 (w4 (rndV n d s (val ([] : List Int)) (val ([] : List Int)) e) 0), .int .u64 (w4 (rndV n d s (val ([] : List Int)) (val ([] : List Int)) e) 1), .int .u64 (w4 (rndV n d s (val ([] : List Int)) (val ([] : List Int)) e) 2), .int .u64 (w4 (rndV n d s (val ([] : List Int)) (val ([] : List Int)) e) 3)]), .v (.int .i64 (rndF n d s (val ([] : List Int)) (val ([] : List Int)) e))]) := rfl
noncomputable def G32 : Gam := [(51, .body, norm s51), (52, .body, norm s52), (53, .body, norm s53), (54, .body, norm s54), (55, .body, norm s55), (56, .body, norm s56), (57, .body, norm s57), (58, .body, norm s58), (59, .body, norm s59), (60, .body, norm s60)]
theorem G32_ok : GamOk Try.prog G32 := gamOk_cons sound_51 (gamOk_cons sound_52 (gamOk_cons sound_53 (gamOk_cons sound_54 (gamOk_cons sound_55 (gamOk_cons sound_56 (gamOk_cons sound_57 (gamOk_cons sound_58 (gamOk_cons sound_59 (gamOk_cons sound_60 gamOk_nil)))))))))
theorem k32_51 : lk G32 51 = some (.body, norm s51) := rfl
theorem k32_52 : lk G32 52 = some (.body, norm s52) := rfl
theorem k32_53 : lk G32 53 = some (.body, norm s53) := rfl
theorem k32_54 : lk G32 54 = some (.body, norm s54) := rfl
theorem k32_55 : lk G32 55 = some (.body, norm s55) := rfl
theorem k32_56 : lk G32 56 = some (.body, norm s56) := rfl
theorem k32_57 : lk G32 57 = some (.body, norm s57) := rfl
theorem k32_58 : lk G32 58 = some (.body, norm s58) := rfl
theorem k32_59 : lk G32 59 = some (.body, norm s59) := rfl
theorem k32_60 : lk G32 60 = some (.body, norm s60) := rfl
set_option maxHeartbeats 20000000 in
theorem w32 (n : Int) (d : Int) (s : Bool) (a : List Int) (b : List Int) (e : Int) (hp : (1 ≤ n ∧ n ≤ 6) ∧ (0 ≤ d ∧ d ≤ 4) ∧ (lim a ∧ limbs (val a) = a ∧ a.length ≤ 800) ∧ (lim b ∧ limbs (val b) = b ∧ b.length ≤ 800) ∧ val b ≠ 0) : awp ty G32 (code Try.f32) (retP ty Try.f32.results.toList (.many [.v (.agg #[.int .u64 (w4 (rndV n d s (val a) (val b) e) 0), .int .u64 (w4 (rndV n d s (val a) (val b) e) 1), .int .u64 (w4 (rndV n d s (val a) (val b) e) 2), .int .u64 (w4 (rndV n d s (val a) (val b) e) 3)]), .v (.int .i64 (rndF n d s (val a) (val b) e))])) (entry 0 [.v (.int .i64 n), .v (.int .i64 d), .v (.bool s), .sl .u64 a, .sl .u64 b, .v (.int .i64 e)]) [] := by
  unfold code
  simp only [Try.f32, Option.getD_some]
  obtain ⟨hn, hd, la, lb, hy0⟩ := hp
  have bx := blen_val la.1
  have b_y := blen_val lb.1
  have i2 : (2 : Int).toNat = 2 := rfl
  generalize hx : val a = x at *
  generalize hy : val b = y at *
  have lx := congrArg List.length la.2.1
  have ly := congrArg List.length lb.2.1
  have zx := @len_zero x
  have hI := infoV_in (n := n) (by omega)
  obtain ⟨F1, F2, F3, F4, F5, F6, F7, F8, F9, F10, F11⟩ := bfmt hn
  have hV0 : V4 0 0 0 0 = 0 := rfl
  rcases Nat.eq_zero_or_pos x with hx0 | hx0
  all_goals first
    | (have gx0 : ((a.length : Int) == 0) = true := by simp only [beq_iff_eq]; omega)
    | (have gx0 : ((a.length : Int) == 0) = false := by simp only [beq_eq_false_iff_ne, ne_eq]; omega)
  case' inr =>
    obtain ⟨E, hE⟩ : ∃ E, scE 2 e = E := ⟨_, rfl⟩
    obtain ⟨L, hLL⟩ : ∃ L, lowR (x * 2 ^ E.toNat) (y * 2 ^ (-E).toNat) = L := ⟨_, rfl⟩
    obtain ⟨Q, hQQ⟩ : ∃ Q, max (2 - fe n - fp n) (L - fp n + 1) = Q := ⟨_, rfl⟩
    obtain ⟨KK, hKK⟩ : ∃ KK, scE 2 (-Q) = KK := ⟨_, rfl⟩
    obtain ⟨⟨c, ex⟩, hdv⟩ : ∃ D, divS d s (x * 2 ^ E.toNat * 2 ^ KK.toNat) (y * 2 ^ (-E).toNat * 2 ^ (-KK).toNat) = D := ⟨_, rfl⟩
    have hEb := scE_b 2 e
    rw [hE] at hEb
    have hKb := scE_b 2 (-Q)
    rw [hKK] at hKb
    have hLb := lowR_bound (x * 2 ^ E.toNat) (y * 2 ^ (-E).toNat)
    rw [hLL, blen_mul (by omega), blen_mul (by omega)] at hLb
    have hcb := @blen_divS d s (x * 2 ^ E.toNat * 2 ^ KK.toNat) (y * 2 ^ (-E).toNat * 2 ^ (-KK).toNat)
    rw [hdv, blen_mul (by have := Nat.two_pow_pos E.toNat; exact Nat.mul_ne_zero (by omega) (by omega)), blen_mul (by omega)] at hcb
    have hyE : y * 2 ^ (-E).toNat ≠ 0 := Nat.mul_ne_zero (by omega) (by have := Nat.two_pow_pos (-E).toNat; omega)
    have hyK : y * 2 ^ (-E).toNat * 2 ^ (-KK).toNat ≠ 0 := Nat.mul_ne_zero hyE (by have := Nat.two_pow_pos (-KK).toNat; omega)
    have l1 := len_b (@blen_pow_le x E.toNat)
    have l2 := len_b (@blen_pow_le y (-E).toNat)
    have l3 := len_b (Nat.le_of_eq (blen_mul (n := x * 2 ^ E.toNat) (Nat.mul_ne_zero (by omega) (by have := Nat.two_pow_pos E.toNat; omega)) KK.toNat))
    have l4 := len_b (Nat.le_of_eq (blen_mul hyE (-KK).toNat))
    rw [blen_mul (by omega)] at l3 l4
    dsimp only at hcb
    have lc := len_b hcb
    have hway := ref_way (d := d) (s := s) (e := e) hn hx0 (Nat.pos_of_ne_zero hy0) (by omega) (by omega) hE.symm hLL.symm hQQ.symm hKK.symm
    have rqb := @rq_b n x y e
    rcases hway with ⟨w1, w2, w3⟩ | ⟨w1, w2, w3, w4', w5, hO⟩
  case' inr.inr =>
    rw [← w4', hdv] at hO
    have hD : rdiv n d s x y e = (c, ex) := w4'.symm.trans hdv
    have hpw : 2 ^ (fp n).toNat ≤ 2 ^ 241 := Nat.pow_le_pow_right (by omega) (by omega)
    have hpw1 : 2 ^ (fp n - 1).toNat ≤ 2 ^ 241 := Nat.pow_le_pow_right (by omega) (by omega)
    have hcl : c < 2 ^ 256 := by
      have h241 : (2 : Nat) ^ 241 < 2 ^ 256 := by decide
      rcases hO with ⟨_, _, h3⟩ | ⟨_, h3⟩
      · exact Nat.lt_of_le_of_lt (Nat.le_trans h3 hpw) h241
      · exact Nat.lt_of_le_of_lt (Nat.le_trans h3 hpw1) h241
  all_goals first
    | (have hV4 := V4_w4 hcl)
    | (have hV4 : decide ((4 : Int) ≥ 5) = false := rfl)
  all_goals first
    | (have hV5 := V4_w4 (Nat.lt_of_le_of_lt (Nat.div_le_self c 2) hcl))
    | (have hV5 : decide ((4 : Int) ≥ 5) = false := rfl)
  all_goals first
    | (have _h := hdv)
    | (have hE : decide ((4 : Int) ≥ 5) = false := rfl
       have hLL : decide ((4 : Int) ≥ 5) = false := rfl
       have hQQ : decide ((4 : Int) ≥ 5) = false := rfl
       have hKK : decide ((4 : Int) ≥ 5) = false := rfl
       have hdv : decide ((4 : Int) ≥ 5) = false := rfl)
  all_goals repeat' (first
    | ((first
       | (with_reducible refine ops_k ?_; intro X hX)
       | (with_reducible refine opsN_k ?_; intro X hX)
       | (with_reducible show awp _ _ _ _ (keepL _ _) _)
       | with_reducible refine awp_cond_k ?_
       | (with_reducible refine Brk_i ?_ ?_ <;> intro hb <;> (try simp only [hb]) <;> have hq := hb <;> try simp only [decide_eq_true_eq, decide_eq_false_iff_not, gt_iff_lt, ge_iff_le, Int.not_lt, Int.not_le, beq_iff_eq, beq_eq_false_iff_ne, Bool.not_eq_true', Bool.not_eq_false', Bool.and_eq_true, Bool.or_eq_true, Bool.and_eq_false_imp, Bool.or_eq_false_iff, ne_eq, Classical.not_not] at hq)
       | with_reducible refine retP_ret_i ?_
       | with_reducible refine retP_normal_i ?_
       | (with_reducible (show bindG _ _ _ _ _); simp only [hall])) <;> try simp only [Go.AM.S1, Go.AM.S2, Go.AM.S3, Go.AM.S4, Go.AM.S5, Go.AM.S6, Go.AM.S7, Go.AM.S8, Go.AM.S9, Nat.reduceAdd, Nat.reduceMul, Nat.reduceSub, ↓reduceIte, Nat.reduceEqDiff, Nat.reduceLT, Nat.reduceLeDiff, reduceCtorEq, Int.reduceBEq, Int.reduceBNe, Nat.reduceBEq, Int.reduceEq, Int.reduceToNat, Int.reduceLE, Int.reduceLT, Nat.reduceDiv, Int.reduceAdd, Int.reduceSub, Int.reduceMul, Int.reduceNeg, Int.reduceGT, Int.reduceGE, Nat.reduceMod, k32_51, s51_eq, k32_52, s52_eq, k32_53, s53_eq, s53_nil1, s53_nil2, s53_nil3, k32_54, s54_eq, s54_nil1, s54_nil2, s54_nil3, k32_55, s55_eq, s55_nil1, s55_nil2, s55_nil3, k32_56, s56_eq, s56_nil1, k32_57, s57_eq, s57_nil1, k32_58, s58_eq, k32_59, s59_eq, k32_60, s60_eq, s60_nil1, ty_3, ty_4, ty_9, ty_26, ty_28, ty_42, ty_53, ty_91, hx, hy, hI, infoT, val_limbs, limbs_getD, gx0, i2, hE, hLL, hQQ, hKK, hdv, hV0, hV4, hV5, Int.zero_sub, Int.toNat_one, Nat.pow_one])
    | (with_reducible refine hX _ _ ?_; clear hX X)
    | (with_reducible refine ops_nil_i ?_; try clear hall all)
    | (with_reducible refine opsN_nil_i ?_; try clear hall all)
    | (with_reducible refine hK _ _ ?_; clear hK K)
    | with_reducible refine thenP_normal_i ?_
    | (with_reducible refine zzr23 _ _ ?_; try clear zzr23 Kzzr23)
    | (with_reducible refine zzb0 _ _ ?_; try clear zzb0 Kzzb0)
    | (with_reducible refine zzr20 _ _ ?_; try clear zzr20 Kzzr20)
    | (with_reducible refine zzr22 _ _ ?_; try clear zzr22 Kzzr22)
    | (with_reducible refine zzr21 _ _ ?_; try clear zzr21 Kzzr21)
    | (with_reducible refine zzr19 _ _ ?_; try clear zzr19 Kzzr19)
    | (with_reducible refine zzr18 _ _ ?_; try clear zzr18 Kzzr18)
    | (with_reducible refine zzsr13 _ _ ?_; try clear zzsr13 Kzzsr13)
    | (with_reducible refine zzr17 _ _ ?_; try clear zzr17 Kzzr17)
    | (with_reducible refine zzsr15 _ _ ?_; try clear zzsr15 Kzzsr15)
    | (with_reducible refine zzr15 _ _ ?_; try clear zzr15 Kzzr15)
    | (with_reducible refine zzr14 _ _ ?_; try clear zzr14 Kzzr14)
    | (with_reducible refine zzr13 _ _ ?_; try clear zzr13 Kzzr13)
    | (with_reducible refine zzsr10 _ _ ?_; try clear zzsr10 Kzzsr10)
    | (with_reducible refine zzr11 _ _ ?_; try clear zzr11 Kzzr11)
    | (with_reducible refine zzr10 _ _ ?_; try clear zzr10 Kzzr10)
    | (with_reducible refine zzr9 _ _ ?_; try clear zzr9 Kzzr9)
    | (with_reducible refine zzr8 _ _ ?_; try clear zzr8 Kzzr8)
    | (with_reducible refine zzr7 _ _ ?_; try clear zzr7 Kzzr7)
    | (with_reducible refine zzr6 _ _ ?_; try clear zzr6 Kzzr6)
    | (with_reducible refine zzr5 _ _ ?_; try clear zzr5 Kzzr5)
    | (with_reducible refine zzsr2 _ _ ?_; try clear zzsr2 Kzzsr2)
    | (with_reducible refine zzr4 _ _ ?_; try clear zzr4 Kzzr4)
    | (with_reducible refine zzr3 _ _ ?_; try clear zzr3 Kzzr3)
    | (with_reducible refine zzr2 _ _ ?_; try clear zzr2 Kzzr2)
    | (with_reducible refine zzr1 _ _ ?_; try clear zzr1 Kzzr1)
    | (with_reducible refine zzr0 _ _ ?_; try clear zzr0 Kzzr0)
    | (with_reducible refine awp_seq_l (a := .region 23 _ _) [12, 13] ?_; intro Kzzr23 zzr23)
    | (with_reducible refine awp_seq_l (a := .block 0 _) [12, 26] ?_; intro Kzzb0 zzb0)
    | (with_reducible refine awp_seq_l (a := .region 20 _ _) [12, 13] ?_; intro Kzzr20 zzr20)
    | (with_reducible refine awp_seq_l (a := .region 22 _ _) [12, 13] ?_; intro Kzzr22 zzr22)
    | (with_reducible refine awp_seq_l (a := .region 21 _ _) [12, 26, 126] ?_; intro Kzzr21 zzr21)
    | (with_reducible refine awp_seq_l (a := .region 19 _ _) [12, 14, 18, 26, 123] ?_; intro Kzzr19 zzr19)
    | (with_reducible refine awp_seq_l (a := .region 18 _ _) [12, 14, 18, 23, 26] ?_; intro Kzzr18 zzr18)
    | (with_reducible refine awp_seq_l (a := .seq (.region 13 _ _) _) [0, 2, 12, 14, 18, 19, 22, 23] ?_; intro Kzzsr13 zzsr13)
    | (with_reducible refine awp_seq_l (a := .region 17 _ _) [12, 13] ?_; intro Kzzr17 zzr17)
    | (with_reducible refine awp_seq_l (a := .seq (.region 15 _ _) _) [12, 24] ?_; intro Kzzsr15 zzsr15)
    | (with_reducible refine awp_seq_l (a := .region 15 _ _) [0, 2, 12, 24, 104] ?_; intro Kzzr15 zzr15)
    | (with_reducible refine awp_seq_l (a := .region 14 _ _) [0, 1, 2, 12, 24] ?_; intro Kzzr14 zzr14)
    | (with_reducible refine awp_seq_l (a := .region 13 _ _) [0, 1, 2, 12, 14, 18, 19, 22, 23, 95] ?_; intro Kzzr13 zzr13)
    | (with_reducible refine awp_seq_l (a := .seq (.region 10 _ _) _) [0, 1, 2, 12, 14, 18, 19, 22, 23] ?_; intro Kzzsr10 zzsr10)
    | (with_reducible refine awp_seq_l (a := .region 11 _ _) [0, 1, 2, 12, 14, 18, 19, 22, 23] ?_; intro Kzzr11 zzr11)
    | (with_reducible refine awp_seq_l (a := .region 10 _ _) [0, 1, 2, 12, 14, 18, 19, 22, 23, 84] ?_; intro Kzzr10 zzr10)
    | (with_reducible refine awp_seq_l (a := .region 9 _ _) [0, 1, 2, 12, 14, 18, 19, 22, 23] ?_; intro Kzzr9 zzr9)
    | (with_reducible refine awp_seq_l (a := .region 8 _ _) [0, 1, 2, 12, 14, 18, 19, 20, 21] ?_; intro Kzzr8 zzr8)
    | (with_reducible refine awp_seq_l (a := .region 7 _ _) [0, 1, 2, 3, 4, 12, 14, 18, 19] ?_; intro Kzzr7 zzr7)
    | (with_reducible refine awp_seq_l (a := .region 6 _ _) [0, 1, 2, 3, 4, 12, 14, 18] ?_; intro Kzzr6 zzr6)
    | (with_reducible refine awp_seq_l (a := .region 5 _ _) [0, 1, 2, 3, 4, 12, 14] ?_; intro Kzzr5 zzr5)
    | (with_reducible refine awp_seq_l (a := .seq (.region 2 _ _) _) [0, 1, 2, 3, 4, 5, 12, 14] ?_; intro Kzzsr2 zzsr2)
    | (with_reducible refine awp_seq_l (a := .region 4 _ _) [12, 13] ?_; intro Kzzr4 zzr4)
    | (with_reducible refine awp_seq_l (a := .region 3 _ _) [12, 16] ?_; intro Kzzr3 zzr3)
    | (with_reducible refine awp_seq_l (a := .region 2 _ _) [0, 1, 2, 3, 4, 5, 12, 14, 35] ?_; intro Kzzr2 zzr2)
    | (with_reducible refine awp_seq_l (a := .region 1 _ _) [0, 1, 2, 3, 4, 5, 12, 14] ?_; intro Kzzr1 zzr1)
    | (with_reducible refine awp_seq_l (a := .region 0 _ _) [0, 1, 2, 3, 4, 5, 12] ?_; intro Kzzr0 zzr0)
    | (with_reducible refine awp_seq_k ?_; intro K hK)
    | (with_reducible refine awp_region_a ?_; intro all hall K hK)
    | (with_reducible refine awp_draw_n ?_ ?_; kernel_rfl; intro all hall K hK)
    | (with_reducible refine Chk_i ?_ ?_)
    | (with_reducible refine keysC_i ?_; kernel_rfl)
    | (with_reducible first | refine awp_block_i ?_ | refine awp_skip_i ?_ | refine awp_ret_i ?_ | refine awp_exit_i ?_ | refine thenP_ret_i ?_ | refine thenP_exit_i ?_ | refine lpP_ret_i ?_ | refine lpP_exit_i ?_ | refine unrP_succ_i ?_ | refine unrP_ret_i ?_ | refine unrP_exit_i ?_ | refine blockP_normal_i ?_ | refine blockP_ret_i ?_)
    | (with_reducible refine blockP_exit_i ?_; simp only [↓reduceIte, Nat.reduceEqDiff])
    | with_reducible refine lpP_normal_i ?_)
  all_goals (try clear zzr0; try clear Kzzr0)
  all_goals (try clear zzr1; try clear Kzzr1)
  all_goals (try clear zzr2; try clear Kzzr2)
  all_goals (try clear zzr3; try clear Kzzr3)
  all_goals (try clear zzr4; try clear Kzzr4)
  all_goals (try clear zzsr2; try clear Kzzsr2)
  all_goals (try clear zzr5; try clear Kzzr5)
  all_goals (try clear zzr6; try clear Kzzr6)
  all_goals (try clear zzr7; try clear Kzzr7)
  all_goals (try clear zzr8; try clear Kzzr8)
  all_goals (try clear zzr9; try clear Kzzr9)
  all_goals (try clear zzr10; try clear Kzzr10)
  all_goals (try clear zzr11; try clear Kzzr11)
  all_goals (try clear zzsr10; try clear Kzzsr10)
  all_goals (try clear zzr13; try clear Kzzr13)
  all_goals (try clear zzr14; try clear Kzzr14)
  all_goals (try clear zzr15; try clear Kzzr15)
  all_goals (try clear zzsr15; try clear Kzzsr15)
  all_goals (try clear zzr17; try clear Kzzr17)
  all_goals (try clear zzsr13; try clear Kzzsr13)
  all_goals (try clear zzr18; try clear Kzzr18)
  all_goals (try clear zzr19; try clear Kzzr19)
  all_goals (try clear zzr21; try clear Kzzr21)
  all_goals (try clear zzr22; try clear Kzzr22)
  all_goals (try clear zzr20; try clear Kzzr20)
  all_goals (try clear zzb0; try clear Kzzb0)
  all_goals (try clear zzr23; try clear Kzzr23)
  all_goals clear hV4 hV5
  all_goals (try simp only [inR])
  all_goals (try (have hx1 : x ≠ 0 := by omega))
  all_goals first
    | omega
    | exact ⟨⟨la.1, la.2.1, by omega⟩, lb.1, lb.2.1, by omega⟩
    | exact ⟨⟨lim_limbs _, by omega⟩, lim_limbs _, by omega⟩
    | exact ⟨⟨lim_limbs _, by omega⟩, ⟨lim_limbs _, by omega⟩, hyK⟩
    | exact ⟨lim_limbs _, by omega⟩
    | exact ⟨hn, .inr (.inl ⟨rfl, rfl, rfl, rfl⟩)⟩
    | exact ⟨hn, .inl ⟨rfl, rfl, by omega, by omega, .inr ⟨by show ((0 : Nat) : Int) < _; omega, rfl⟩⟩⟩
    | (rw [(rnd_zero (n := n) (d := d) (s := s) (e := e) (y := y) hx0).1, (rnd_zero (n := n) (d := d) (s := s) (e := e) (y := y) hx0).2]; exact ⟨rfl, rfl⟩)
    | (have vv := rnd_ovA (n := n) (d := d) (s := s) hx1 w3
       rw [vv.1, vv.2]
       first
         | (rw [ov_t hq]; exact ⟨rfl, rfl⟩)
         | (rw [ov_f hq]; exact ⟨rfl, rfl⟩))
    | (rw [w1]; exact ⟨hn, ⟨w4_lim _ _, w4_lim _ _, w4_lim _ _, w4_lim _ _⟩, rnd_isD1 F1 hO rqb.1 (by omega) (by omega)⟩)
    | (rw [w1]; exact ⟨hn, ⟨w4_lim _ _, w4_lim _ _, w4_lim _ _, w4_lim _ _⟩, rnd_isD0 F1 hO rqb.1 (by omega) (by omega)⟩)
    | (have vv := rnd_ov1 hx1 hD (by omega) (by omega)
       rw [vv.1, vv.2]
       first
         | (rw [ov_t hq]; exact ⟨rfl, rfl⟩)
         | (rw [ov_f hq]; exact ⟨rfl, rfl⟩))
    | (have vv := rnd_ov0 hx1 hD (by omega) (by omega)
       rw [vv.1, vv.2]
       first
         | (rw [ov_t hq]; exact ⟨rfl, rfl⟩)
         | (rw [ov_f hq]; exact ⟨rfl, rfl⟩))
    | (have v1 := rnd_num1 hx1 hD (by omega) (by omega)
       have ff := rnd_f hx1 hD (.inl ⟨by omega, by omega⟩)
       rw [v1, w1]
       first
         | (rw [ff.1 (by simp_all)]; exact ⟨rfl, rfl⟩)
         | (rw [ff.2.1 (by simp_all) (by omega)]; exact ⟨rfl, rfl⟩)
         | (rw [ff.2.2 (by simp_all) (by omega)]; exact ⟨rfl, rfl⟩))
    | (have v1 := rnd_num0 hx1 hD (by omega) (by omega)
       have ff := rnd_f hx1 hD (.inr ⟨by omega, by omega⟩)
       rw [v1, w1]
       first
         | (rw [ff.1 (by simp_all)]; exact ⟨rfl, rfl⟩)
         | (rw [ff.2.1 (by simp_all) (by omega)]; exact ⟨rfl, rfl⟩)
         | (rw [ff.2.2 (by simp_all) (by omega)]; exact ⟨rfl, rfl⟩))
    | skip
theorem sound_32 : Sound Try.prog 32 .body (norm s32) := by
  refine sound_norm (sound_body Try.func32 (show Try.f32.body = some (code Try.f32) from rfl) (by kernel_rfl) tysOk G32_ok (drawOk_ok (by kernel_rfl) tysOk G32_ok) (by kernel_rfl) fun ds p r hs hp => ?_)
  unfold s32 at hs
  split at hs
  · cases hs; exact ⟨Nat.le_of_ble_eq_true (by kernel_rfl), w32 _ _ _ _ _ _ hp⟩
  · cases hs
end Go.Proofs.AMT
set_option maxRecDepth 20000
namespace Go.Proofs.AMT
open Go.AM Go.AM.LN
attribute [local congr] bindO_congr bindS_congr bindG_congr awpOps_congr aOne_congr awp_congr aCond_congr awpD_congr dOne_congr keysB_congr nOne_congr thenP_congr blockP_congr Chk_congr Brk_congr
noncomputable def s16 : CSpec := fun ds => match ds with
  | [.v (.int .i64 n), .v (.int .i64 d), .v (.bool s), .sl .u64 a, .sl .u64 b, .v (.int .i64 e)] => some ((lim a ∧ a.length ≤ 60000000) ∧ (lim b ∧ b.length ≤ 60000000) ∧ val b ≠ 0 ∧ sz a ≤ 800 ∧ sz b ≤ 800, .many [.v (.agg #[.int .u64 (w4 (roundV n d s (val a) (val b) e) 0), .int .u64 (w4 (roundV n d s (val a) (val b) e) 1), .int .u64 (w4 (roundV n d s (val a) (val b) e) 2), .int .u64 (w4 (roundV n d s (val a) (val b) e) 3)]), .v (.int .i64 (roundF n d s (val a) (val b) e)), .v (.int .i64 (roundE n d))])
  | _ => none
theorem s16_eq (n : Int) (d : Int) (s : Bool) (a : List Int) (b : List Int) (e : Int) : norm s16 [.v (.int .i64 n), .v (.int .i64 d), .v (.bool s), .sl .u64 a, .sl .u64 b, .v (.int .i64 e)] = some ((lim a ∧ a.length ≤ 60000000) ∧ (lim b ∧ b.length ≤ 60000000) ∧ val b ≠ 0 ∧ sz a ≤ 800 ∧ sz b ≤ 800, .many [.v (.agg #[.int .u64 (w4 (roundV n d s (val a) (val b) e) 0), .int .u64 (w4 (roundV n d s (val a) (val b) e) 1), .int .u64 (w4 (roundV n d s (val a) (val b) e) 2), .int .u64 (w4 (roundV n d s (val a) (val b) e) 3)]), .v (.int .i64 (roundF n d s (val a) (val b) e)), .v (.int .i64 (roundE n d))]) := rfl
theorem s16_nil1 (n : Int) (d : Int) (s : Bool)  (b : List Int) (e : Int) : norm s16 [.v (.int .i64 n), .v (.int .i64 d), .v (.bool s), .v (.slice none 0 0), .sl .u64 b, .v (.int .i64 e)] = some ((lim ([] : List Int) ∧ ([] : List Int).length ≤ 60000000) ∧ (lim b ∧ b.length ≤ 60000000) ∧ val b ≠ 0 ∧ sz ([] : List Int) ≤ 800 ∧ sz b ≤ 800, .many [.v (.agg #[.int .u64 (w4 (roundV n d s (val ([] : List Int)) (val b) e) 0), .int .u64 (w4 (roundV n d s (val ([] : List Int)) (val b) e) 1), .int .u64 (w4 (roundV n d s (val ([] : List Int)) (val b) e) 2), .int .u64 (w4 (roundV n d s (val ([] : List Int)) (val b) e) 3)]), .v (.int .i64 (roundF n d s (val ([] : List Int)) (val b) e)), .v (.int .i64 (roundE n d))]) := rfl
theorem s16_nil2 (n : Int) (d : Int) (s : Bool) (a : List Int)  (e : Int) : norm s16 [.v (.int .i64 n), .v (.int .i64 d), .v (.bool s), .sl .u64 a, .v (.slice none 0 0), .v (.int .i64 e)] = some ((lim a ∧ a.length ≤ 60000000) ∧ (lim ([] : List Int) ∧ ([] : List Int).length ≤ 60000000) ∧ val ([] : List Int) ≠ 0 ∧ sz a ≤ 800 ∧ sz ([] : List Int) ≤ 800, .many [.v (.agg #[.int .u64 (w4 (roundV n d s (val a) (val ([] : List Int)) e) 0), .int .u64 (w4 (roundV n d s (val a) (val ([] : List Int)) e) 1), .int .u64 (w4 (roundV n d s (val a) (val ([] : List Int)) e) 2), .int .u64 (w4 (roundV n d s (val a) (val ([] : List Int)) e) 3)]), .v (.int .i64 (roundF n d s (val a) (val ([] : List Int)) e)), .v (.int .i64 (roundE n d))]) := rfl
theorem s16_nil3 (n : Int) (d : Int) (s : Bool)   (e : Int) : norm s16 [.v (.int .i64 n), .v (.int .i64 d), .v (.bool s), .v (.slice none 0 0), .v (.slice none 0 0), .v (.int .i64 e)] = some ((lim ([] : List Int) ∧ ([] : List Int).length ≤ 60000000) ∧ (lim ([] : List Int) ∧ ([] : List Int).length ≤ 60000000) ∧ val ([] : List Int) ≠ 0 ∧ sz ([] : List Int) ≤ 800 ∧ sz ([] : List Int) ≤ 800, .many [.v (.agg #[.int .u64 (w4 (roundV n d s (val ([] : List Int)) (val ([] : List Int)) e) 0), .int .u64 (w4 (roundV n d s (val ([] : List Int)) (val ([] : List Int)) e) 1), .int .u64 (w4 (roundV n d s (val ([] : List Int)) (val ([] : List Int)) e) 2), .int .u64 (w4 (roundV n d s (val ([] : List Int)) (val ([] : List Int)) e) 3)]), .v (.int .i64 (roundF n d s (val ([] : List Int)) (val ([] : List Int)) e)), .v (.int .i64 (roundE n d))]) := rfl
noncomputable def G16 : Gam := [(29, .body, norm s29), (30, .body, norm s30), (31, .body, norm s31), (32, .body, norm s32), (33, .body, norm s33)]
theorem G16_ok : GamOk Try.prog G16 := gamOk_cons sound_29 (gamOk_cons sound_30 (gamOk_cons sound_31 (gamOk_cons sound_32 (gamOk_cons sound_33 gamOk_nil))))
theorem k16_29 : lk G16 29 = some (.body, norm s29) := rfl
theorem k16_30 : lk G16 30 = some (.body, norm s30) := rfl
theorem k16_31 : lk G16 31 = some (.body, norm s31) := rfl
theorem k16_32 : lk G16 32 = some (.body, norm s32) := rfl
theorem k16_33 : lk G16 33 = some (.body, norm s33) := rfl
set_option maxHeartbeats 20000000 in
theorem w16 (n : Int) (d : Int) (s : Bool) (a : List Int) (b : List Int) (e : Int) (hp : (lim a ∧ a.length ≤ 60000000) ∧ (lim b ∧ b.length ≤ 60000000) ∧ val b ≠ 0 ∧ sz a ≤ 800 ∧ sz b ≤ 800) : awp ty G16 (code Try.f16) (retP ty Try.f16.results.toList (.many [.v (.agg #[.int .u64 (w4 (roundV n d s (val a) (val b) e) 0), .int .u64 (w4 (roundV n d s (val a) (val b) e) 1), .int .u64 (w4 (roundV n d s (val a) (val b) e) 2), .int .u64 (w4 (roundV n d s (val a) (val b) e) 3)]), .v (.int .i64 (roundF n d s (val a) (val b) e)), .v (.int .i64 (roundE n d))])) (entry 0 [.v (.int .i64 n), .v (.int .i64 d), .v (.bool s), .sl .u64 a, .sl .u64 b, .v (.int .i64 e)]) [] := by
  unfold code
  simp only [Try.f16, Option.getD_some]
  obtain ⟨la, lb, hy0, sa, sb⟩ := hp
  have zb := sz_zero lb.1
  have za := len_limbs_sz la.1
  have zb' := len_limbs_sz lb.1
  have gb : ((sz b : Int) == 0) = false := by simp only [beq_eq_false_iff_ne, ne_eq]; omega
  have ga8 : decide ((sz a : Int) > 800) = false := by simp only [decide_eq_false_iff_not]; omega
  have gb8 : decide ((sz b : Int) > 800) = false := by simp only [decide_eq_false_iff_not]; omega
  have hcase : ¬ (1 ≤ n ∧ n ≤ 6) ∨ ((1 ≤ n ∧ n ≤ 6) ∧ ¬ (0 ≤ d ∧ d ≤ 4)) ∨ ((1 ≤ n ∧ n ≤ 6) ∧ (0 ≤ d ∧ d ≤ 4)) := by omega
  rcases hcase with hn | ⟨hn, hd⟩ | ⟨hn, hd⟩
  all_goals first
    | (have gn : (decide (n ≥ 1) && decide (n ≤ 6)) = true := by rw [decide_eq_true (by omega : n ≥ 1), decide_eq_true (by omega : n ≤ 6)]; rfl)
    | (have gn : (decide (n ≥ 1) && decide (n ≤ 6)) = false := by
         rw [Bool.and_eq_false_iff, decide_eq_false_iff_not, decide_eq_false_iff_not]; omega)
  all_goals first
    | (have gd : (decide (d ≥ 0) && decide (d ≤ 4)) = true := by rw [decide_eq_true (by omega : d ≥ 0), decide_eq_true (by omega : d ≤ 4)]; rfl)
    | (have gd : (decide (d ≥ 0) && decide (d ≤ 4)) = false := by
         rw [Bool.and_eq_false_iff, decide_eq_false_iff_not, decide_eq_false_iff_not]; omega)
    | (have gd : decide ((4 : Int) ≥ 5) = false := rfl)
  all_goals first
    | (have h0 := okR_n (d := d) hn
       obtain ⟨q1, q2, q3⟩ := round_no h0 s (val a) (val b) e
       rw [q1, q2, q3])
    | (have h0 := okR_d (n := n) hd
       obtain ⟨q1, q2, q3⟩ := round_no h0 s (val a) (val b) e
       rw [q1, q2, q3])
    | (have h0 := okR_y hn hd
       obtain ⟨q1, q2, q3⟩ := round_yes h0 s (val a) (val b) e
       rw [q1, q2, q3])
  all_goals repeat' (first
    | ((first
       | (with_reducible refine ops_k ?_; intro X hX)
       | (with_reducible refine opsN_k ?_; intro X hX)
       | (with_reducible show awp _ _ _ _ (keepL _ _) _)
       | with_reducible refine awp_cond_k ?_
       | (with_reducible refine Brk_i ?_ ?_ <;> intro hb <;> (try simp only [hb]) <;> have hq := hb <;> try simp only [decide_eq_true_eq, decide_eq_false_iff_not, gt_iff_lt, ge_iff_le, Int.not_lt, Int.not_le, beq_iff_eq, beq_eq_false_iff_ne, Bool.not_eq_true', Bool.not_eq_false', Bool.and_eq_true, Bool.or_eq_true, Bool.and_eq_false_imp, Bool.or_eq_false_iff, ne_eq, Classical.not_not] at hq)
       | with_reducible refine retP_ret_i ?_
       | with_reducible refine retP_normal_i ?_
       | (with_reducible (show bindG _ _ _ _ _); simp only [hall])) <;> try simp only [Go.AM.S1, Go.AM.S2, Go.AM.S3, Go.AM.S4, Go.AM.S5, Go.AM.S6, Go.AM.S7, Go.AM.S8, Go.AM.S9, Nat.reduceAdd, Nat.reduceMul, Nat.reduceSub, ↓reduceIte, Nat.reduceEqDiff, Nat.reduceLT, Nat.reduceLeDiff, reduceCtorEq, Int.reduceBEq, Int.reduceBNe, Nat.reduceBEq, Int.reduceEq, Int.reduceToNat, Int.reduceLE, Int.reduceLT, Nat.reduceDiv, Int.reduceAdd, Int.reduceSub, Int.reduceMul, Int.reduceNeg, Int.reduceGT, Int.reduceGE, Nat.reduceMod, k16_29, s29_eq, k16_30, s30_eq, k16_31, s31_eq, s31_nil1, k16_32, s32_eq, s32_nil1, s32_nil2, s32_nil3, k16_33, s33_eq, s33_nil1, ty_3, ty_4, ty_26, ty_28, ty_42, gn, gd, val_limbs, gb, ga8, gb8])
    | (with_reducible refine hX _ _ ?_; clear hX X)
    | (with_reducible refine ops_nil_i ?_; try clear hall all)
    | (with_reducible refine opsN_nil_i ?_; try clear hall all)
    | (with_reducible refine hK _ _ ?_; clear hK K)
    | with_reducible refine thenP_normal_i ?_
    | (with_reducible refine zzr6 _ _ ?_; try clear zzr6 Kzzr6)
    | (with_reducible refine zzr5 _ _ ?_; try clear zzr5 Kzzr5)
    | (with_reducible refine zzsr3 _ _ ?_; try clear zzsr3 Kzzsr3)
    | (with_reducible refine zzr4 _ _ ?_; try clear zzr4 Kzzr4)
    | (with_reducible refine zzr3 _ _ ?_; try clear zzr3 Kzzr3)
    | (with_reducible refine zzsr1 _ _ ?_; try clear zzsr1 Kzzsr1)
    | (with_reducible refine zzr2 _ _ ?_; try clear zzr2 Kzzr2)
    | (with_reducible refine zzr1 _ _ ?_; try clear zzr1 Kzzr1)
    | (with_reducible refine zzr0 _ _ ?_; try clear zzr0 Kzzr0)
    | (with_reducible refine awp_seq_l (a := .region 6 _ _) [12, 13, 14] ?_; intro Kzzr6 zzr6)
    | (with_reducible refine awp_seq_l (a := .region 5 _ _) [12, 15, 16] ?_; intro Kzzr5 zzr5)
    | (with_reducible refine awp_seq_l (a := .seq (.region 3 _ _) _) [0, 1, 2, 3, 4, 5, 12] ?_; intro Kzzsr3 zzsr3)
    | (with_reducible refine awp_seq_l (a := .region 4 _ _) [12, 13, 14] ?_; intro Kzzr4 zzr4)
    | (with_reducible refine awp_seq_l (a := .region 3 _ _) [0, 1, 2, 3, 4, 5, 12, 38] ?_; intro Kzzr3 zzr3)
    | (with_reducible refine awp_seq_l (a := .seq (.region 1 _ _) _) [0, 1, 2, 3, 4, 5, 12] ?_; intro Kzzsr1 zzsr1)
    | (with_reducible refine awp_seq_l (a := .region 2 _ _) [12, 13, 14] ?_; intro Kzzr2 zzr2)
    | (with_reducible refine awp_seq_l (a := .region 1 _ _) [0, 1, 2, 3, 4, 5, 12, 29] ?_; intro Kzzr1 zzr1)
    | (with_reducible refine awp_seq_l (a := .region 0 _ _) [0, 1, 2, 3, 4, 5, 12] ?_; intro Kzzr0 zzr0)
    | (with_reducible refine awp_seq_k ?_; intro K hK)
    | (with_reducible refine awp_region_a ?_; intro all hall K hK)
    | (with_reducible refine awp_draw_n ?_ ?_; kernel_rfl; intro all hall K hK)
    | (with_reducible refine Chk_i ?_ ?_)
    | (with_reducible refine keysC_i ?_; kernel_rfl)
    | (with_reducible first | refine awp_block_i ?_ | refine awp_skip_i ?_ | refine awp_ret_i ?_ | refine awp_exit_i ?_ | refine thenP_ret_i ?_ | refine thenP_exit_i ?_ | refine lpP_ret_i ?_ | refine lpP_exit_i ?_ | refine unrP_succ_i ?_ | refine unrP_ret_i ?_ | refine unrP_exit_i ?_ | refine blockP_normal_i ?_ | refine blockP_ret_i ?_)
    | (with_reducible refine blockP_exit_i ?_; simp only [↓reduceIte, Nat.reduceEqDiff])
    | with_reducible refine lpP_normal_i ?_)
  all_goals (try clear zzr0; try clear Kzzr0)
  all_goals (try clear zzr1; try clear Kzzr1)
  all_goals (try clear zzr2; try clear Kzzr2)
  all_goals (try clear zzsr1; try clear Kzzsr1)
  all_goals (try clear zzr3; try clear Kzzr3)
  all_goals (try clear zzr4; try clear Kzzr4)
  all_goals (try clear zzsr3; try clear Kzzsr3)
  all_goals (try clear zzr5; try clear Kzzr5)
  all_goals (try clear zzr6; try clear Kzzr6)
  all_goals (try simp only [inR])
  all_goals first
    | omega
    | exact ⟨la.1, by omega⟩
    | exact ⟨lb.1, by omega⟩
    | exact ⟨hn, hd, ⟨lim_limbs _, by omega⟩, ⟨lim_limbs _, by omega⟩, hy0⟩
    | (simp only [Go.AM.LN.w40]; done)
    | skip
theorem sound_16 : Sound Try.prog 16 .body (norm s16) := by
  refine sound_norm (sound_body Try.func16 (show Try.f16.body = some (code Try.f16) from rfl) (by kernel_rfl) tysOk G16_ok (drawOk_ok (by kernel_rfl) tysOk G16_ok) (by kernel_rfl) fun ds p r hs hp => ?_)
  unfold s16 at hs
  split at hs
  · cases hs; exact ⟨Nat.le_of_ble_eq_true (by kernel_rfl), w16 _ _ _ _ _ _ hp⟩
  · cases hs
end Go.Proofs.AMT
set_option maxRecDepth 100000
namespace Go.Proofs.AMT
open Go.AM
noncomputable def awakeR : Option (Prop × Res) := (lk (GamN ty 1000 bodies extB 25) 8).bind fun s => s.2 []
theorem awake_run : awakeR = some (True, .one (.v (.bool true))) := by kernel_rfl
def sAwake : CSpec := fun ds => match ds with
  | [] => some (True, .one (.v (.bool true)))
  | _ => none
theorem sAwake_eq : sAwake [] = some (True, .one (.v (.bool true))) := rfl
theorem sound_8 : Sound Try.prog 8 .body sAwake := by
  have hg := (GamN_ok (fuel := 1000) (P := Try.prog) (by kernel_rfl) tysOk extB_ok extB_free bodies_ok bodies_some 25).1
  have h := awake_run
  unfold awakeR at h
  obtain ⟨⟨fk, spec⟩, h1, h2⟩ := Option.bind_eq_some_iff.1 h
  have hs := hg 8 fk spec h1
  have hfk : fk = .body := by
    have : (lk (GamN ty 1000 bodies extB 25) 8).map (·.1) = some .body := by kernel_rfl
    rw [h1] at this
    exact Option.some.inj this
  subst hfk
  refine sound_weaken hs fun ds p r h3 h4 => ?_
  unfold sAwake at h3
  split at h3
  · cases h3; exact ⟨True, h2, trivial⟩
  · cases h3
end Go.Proofs.AMT
set_option maxRecDepth 20000
namespace Go.Proofs.AMT
open Go.AM Go.AM.LN
attribute [local congr] bindO_congr bindS_congr bindG_congr awpOps_congr aOne_congr awp_congr aCond_congr awpD_congr dOne_congr keysB_congr nOne_congr thenP_congr blockP_congr Chk_congr Brk_congr
noncomputable def s5 : CSpec := fun ds => match ds with
  | [.v (.int .i64 n), .v (.int .i64 d), .v (.int .i64 m)] => some (-9223372036854775808 ≤ m ∧ m ≤ 9223372036854775807, .one (.v (.bool true)))
  | _ => none
theorem s5_eq (n : Int) (d : Int) (m : Int) : norm s5 [.v (.int .i64 n), .v (.int .i64 d), .v (.int .i64 m)] = some (-9223372036854775808 ≤ m ∧ m ≤ 9223372036854775807, .one (.v (.bool true))) := rfl
noncomputable def G5 : Gam := [(8, .body, sAwake), (15, .body, norm s15), (16, .body, norm s16)]
theorem G5_ok : GamOk Try.prog G5 := gamOk_cons sound_8 (gamOk_cons sound_15 (gamOk_cons sound_16 gamOk_nil))
theorem k5_8 : lk G5 8 = some (.body, sAwake) := rfl
theorem k5_15 : lk G5 15 = some (.body, norm s15) := rfl
theorem k5_16 : lk G5 16 = some (.body, norm s16) := rfl
set_option maxHeartbeats 20000000 in
theorem w5 (n : Int) (d : Int) (m : Int) (hp : -9223372036854775808 ≤ m ∧ m ≤ 9223372036854775807) : awp ty G5 (code Try.f5) (retP ty Try.f5.results.toList (.one (.v (.bool true)))) (entry 0 [.v (.int .i64 n), .v (.int .i64 d), .v (.int .i64 m)]) [] := by
  unfold code
  simp only [Try.f5, Option.getD_some]
  have hmc : (m < 0 ∧ m % 18446744073709551616 = 18446744073709551616 - (m.natAbs : Int)) ∨ (0 ≤ m ∧ m % 18446744073709551616 = (m.natAbs : Int)) := by omega
  obtain ⟨A, hA⟩ : ∃ A, m.natAbs = A := ⟨_, rfl⟩
  have hAl : A ≤ 9223372036854775808 := by omega
  rw [hA] at hmc
  have i1 : (1 : Int).toNat = 1 := rfl
  have hAn : ((A : Int)).toNat = A := Int.toNat_natCast A
  have lA := len_b (x := A) (k := 64) (blen_lt.2 (by omega))
  have l1 := len_b (x := 1) (k := 64) (by decide)
  have hlA : limbs A = [(A : Int)] ∨ (A = 0 ∧ limbs A = []) := by
    rcases Nat.eq_zero_or_pos A with h | h
    · exact .inr ⟨h, by rw [h]; rfl⟩
    · exact .inl (limbs_of_lt (by omega) (by omega))
  rcases hmc with ⟨hm, hmm⟩ | ⟨hm, hmm⟩
  all_goals first
    | (have gm : decide (m < 0) = true := decide_eq_true hm)
    | (have gm : decide (m < 0) = false := decide_eq_false (by omega))
  all_goals have hng : (0 - (18446744073709551616 - (A : Int))) % 18446744073709551616 = (A : Int) := by omega
  all_goals repeat' (first
    | ((first
       | (with_reducible refine ops_k ?_; intro X hX)
       | (with_reducible refine opsN_k ?_; intro X hX)
       | (with_reducible show awp _ _ _ _ (keepL _ _) _)
       | with_reducible refine awp_cond_k ?_
       | (with_reducible refine Brk_i ?_ ?_ <;> intro hb <;> (try simp only [hb]) <;> have hq := hb <;> try simp only [decide_eq_true_eq, decide_eq_false_iff_not, gt_iff_lt, ge_iff_le, Int.not_lt, Int.not_le, beq_iff_eq, beq_eq_false_iff_ne, Bool.not_eq_true', Bool.not_eq_false', Bool.and_eq_true, Bool.or_eq_true, Bool.and_eq_false_imp, Bool.or_eq_false_iff, ne_eq, Classical.not_not] at hq)
       | with_reducible refine retP_ret_i ?_
       | with_reducible refine retP_normal_i ?_
       | (with_reducible (show bindG _ _ _ _ _); simp only [hall])) <;> try simp only [Go.AM.S1, Go.AM.S2, Go.AM.S3, Go.AM.S4, Go.AM.S5, Go.AM.S6, Go.AM.S7, Go.AM.S8, Go.AM.S9, Nat.reduceAdd, Nat.reduceMul, Nat.reduceSub, ↓reduceIte, Nat.reduceEqDiff, Nat.reduceLT, Nat.reduceLeDiff, reduceCtorEq, Int.reduceBEq, Int.reduceBNe, Nat.reduceBEq, Int.reduceEq, Int.reduceToNat, Int.reduceLE, Int.reduceLT, Nat.reduceDiv, Int.reduceAdd, Int.reduceSub, Int.reduceMul, Int.reduceNeg, Int.reduceGT, Int.reduceGE, Nat.reduceMod, k5_8, sAwake_eq, k5_15, s15_eq, k5_16, s16_eq, s16_nil1, s16_nil2, s16_nil3, ty_2, ty_3, ty_4, ty_26, ty_28, ty_29, ty_42, gm, hmm, hng, hAn, hA, i1, val_limbs, toInts, sz_one])
    | (with_reducible refine hX _ _ ?_; clear hX X)
    | (with_reducible refine ops_nil_i ?_; try clear hall all)
    | (with_reducible refine opsN_nil_i ?_; try clear hall all)
    | (with_reducible refine hK _ _ ?_; clear hK K)
    | with_reducible refine thenP_normal_i ?_
    | (with_reducible refine zzr8 _ _ ?_; try clear zzr8 Kzzr8)
    | (with_reducible refine zzr7 _ _ ?_; try clear zzr7 Kzzr7)
    | (with_reducible refine zzr6 _ _ ?_; try clear zzr6 Kzzr6)
    | (with_reducible refine zzsr4 _ _ ?_; try clear zzsr4 Kzzsr4)
    | (with_reducible refine zzr4 _ _ ?_; try clear zzr4 Kzzr4)
    | (with_reducible refine zzr3 _ _ ?_; try clear zzr3 Kzzr3)
    | (with_reducible refine zzsr1 _ _ ?_; try clear zzsr1 Kzzsr1)
    | (with_reducible refine zzr2 _ _ ?_; try clear zzr2 Kzzr2)
    | (with_reducible refine zzr1 _ _ ?_; try clear zzr1 Kzzr1)
    | (with_reducible refine zzr0 _ _ ?_; try clear zzr0 Kzzr0)
    | (with_reducible refine awp_seq_l (a := .region 8 _ _) [6] ?_; intro Kzzr8 zzr8)
    | (with_reducible refine awp_seq_l (a := .region 7 _ _) [8, 9, 10, 11, 12, 13] ?_; intro Kzzr7 zzr7)
    | (with_reducible refine awp_seq_l (a := .region 6 _ _) [0, 1, 2, 7, 8, 9, 10] ?_; intro Kzzr6 zzr6)
    | (with_reducible refine awp_seq_l (a := .seq (.region 4 _ _) _) [0, 1, 2, 7] ?_; intro Kzzsr4 zzsr4)
    | (with_reducible refine awp_seq_l (a := .region 4 _ _) [0, 1, 2, 7, 19] ?_; intro Kzzr4 zzr4)
    | (with_reducible refine awp_seq_l (a := .region 3 _ _) [0, 1, 2, 7] ?_; intro Kzzr3 zzr3)
    | (with_reducible refine awp_seq_l (a := .seq (.region 1 _ _) _) [0, 1, 2] ?_; intro Kzzsr1 zzsr1)
    | (with_reducible refine awp_seq_l (a := .region 2 _ _) [6] ?_; intro Kzzr2 zzr2)
    | (with_reducible refine awp_seq_l (a := .region 1 _ _) [0, 1, 2, 15] ?_; intro Kzzr1 zzr1)
    | (with_reducible refine awp_seq_l (a := .region 0 _ _) [0, 1, 2] ?_; intro Kzzr0 zzr0)
    | (with_reducible refine awp_seq_k ?_; intro K hK)
    | (with_reducible refine awp_region_a ?_; intro all hall K hK)
    | (with_reducible refine awp_draw_n ?_ ?_; kernel_rfl; intro all hall K hK)
    | (with_reducible refine Chk_i ?_ ?_)
    | (with_reducible refine keysC_i ?_; kernel_rfl)
    | (with_reducible first | refine awp_block_i ?_ | refine awp_skip_i ?_ | refine awp_ret_i ?_ | refine awp_exit_i ?_ | refine thenP_ret_i ?_ | refine thenP_exit_i ?_ | refine lpP_ret_i ?_ | refine lpP_exit_i ?_ | refine unrP_succ_i ?_ | refine unrP_ret_i ?_ | refine unrP_exit_i ?_ | refine blockP_normal_i ?_ | refine blockP_ret_i ?_)
    | (with_reducible refine blockP_exit_i ?_; simp only [↓reduceIte, Nat.reduceEqDiff])
    | with_reducible refine lpP_normal_i ?_)
  all_goals (try clear zzr0; try clear Kzzr0)
  all_goals (try clear zzr1; try clear Kzzr1)
  all_goals (try clear zzr2; try clear Kzzr2)
  all_goals (try clear zzsr1; try clear Kzzsr1)
  all_goals (try clear zzr3; try clear Kzzr3)
  all_goals (try clear zzr4; try clear Kzzr4)
  all_goals (try clear zzsr4; try clear Kzzsr4)
  all_goals (try clear zzr6; try clear Kzzr6)
  all_goals (try clear zzr7; try clear Kzzr7)
  all_goals (try clear zzr8; try clear Kzzr8)
  all_goals (try simp only [inR])
  all_goals first
    | omega
    | exact ⟨lim_one ⟨by omega, by omega⟩, lim_one ⟨by omega, by omega⟩, Nat.le_trans (sz_le _) (Nat.le_of_ble_eq_true rfl), Nat.le_trans (sz_le _) (Nat.le_of_ble_eq_true rfl)⟩
    | skip
theorem sound_5 : Sound Try.prog 5 .body (norm s5) := by
  refine sound_norm (sound_body Try.func5 (show Try.f5.body = some (code Try.f5) from rfl) (by kernel_rfl) tysOk G5_ok (drawOk_ok (by kernel_rfl) tysOk G5_ok) (by kernel_rfl) fun ds p r hs hp => ?_)
  unfold s5 at hs
  split at hs
  · cases hs; exact ⟨Nat.le_of_ble_eq_true (by kernel_rfl), w5 _ _ _ hp⟩
  · cases hs
end Go.Proofs.AMT
