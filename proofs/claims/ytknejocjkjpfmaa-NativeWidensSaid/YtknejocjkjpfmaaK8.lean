/- Part 8 of the proof: own text (LN10, A15, LN11, A16, LN12, A17, LN13, A18, A19, A20). -/
import Derived.Test.YtknejocjkjpfmaaK0
import Derived.Test.YtknejocjkjpfmaaK1
import Derived.Test.YtknejocjkjpfmaaK2
import Derived.Test.YtknejocjkjpfmaaK3
import Derived.Test.YtknejocjkjpfmaaK4
import Derived.Test.YtknejocjkjpfmaaK5
import Derived.Test.YtknejocjkjpfmaaK6
import Derived.Test.YtknejocjkjpfmaaK7
set_option linter.all false
namespace Go.AM.LN
theorem lin4 {a0 a1 a2 a3 b0 b1 b2 b3 c0 c1 c2 c3 d0 d1 d2 d3 : Int} (e0 : a0 + 18446744073709551616 * c0 = b0 + d0) (e1 : a1 + 18446744073709551616 * c1 = b1 + c0 + d1) (e2 : a2 + 18446744073709551616 * c2 = b2 + c1 + d2) (e3 : a3 + 18446744073709551616 * c3 = b3 + c2 + d3) :
    (a0 + 18446744073709551616 * (a1 + 18446744073709551616 * (a2 + 18446744073709551616 * a3))) + 115792089237316195423570985008687907853269984665640564039457584007913129639936 * c3 = (b0 + 18446744073709551616 * (b1 + 18446744073709551616 * (b2 + 18446744073709551616 * b3))) + (d0 + 18446744073709551616 * (d1 + 18446744073709551616 * (d2 + 18446744073709551616 * d3))) := by omega
theorem V4_int {a b c d : Int} (ha : 0 ≤ a) (hb : 0 ≤ b) (hc : 0 ≤ c) (hd : 0 ≤ d) : (V4 a b c d : Int) = a + 18446744073709551616 * (b + 18446744073709551616 * (c + 18446744073709551616 * d)) := by
  unfold V4
  simp only [val]
  obtain ⟨x, rfl⟩ := Int.eq_ofNat_of_zero_le ha
  obtain ⟨y, rfl⟩ := Int.eq_ofNat_of_zero_le hb
  obtain ⟨z, rfl⟩ := Int.eq_ofNat_of_zero_le hc
  obtain ⟨t, rfl⟩ := Int.eq_ofNat_of_zero_le hd
  simp only [Int.toNat_natCast]
  omega
theorem sub4 {a0 a1 a2 a3 b0 b1 b2 b3 c0 c1 c2 c3 : Int} (ha0 : 0 ≤ a0 ∧ a0 < 18446744073709551616) (ha1 : 0 ≤ a1 ∧ a1 < 18446744073709551616) (ha2 : 0 ≤ a2 ∧ a2 < 18446744073709551616) (ha3 : 0 ≤ a3 ∧ a3 < 18446744073709551616)
    (hb0 : 0 ≤ b0 ∧ b0 < 18446744073709551616) (hb1 : 0 ≤ b1 ∧ b1 < 18446744073709551616) (hb2 : 0 ≤ b2 ∧ b2 < 18446744073709551616) (hb3 : 0 ≤ b3 ∧ b3 < 18446744073709551616)
    (h0 : (a0 < b0 → c0 = 1) ∧ (¬ a0 < b0 → c0 = 0)) (h1 : (a1 < b1 + c0 → c1 = 1) ∧ (¬ a1 < b1 + c0 → c1 = 0)) (h2 : (a2 < b2 + c1 → c2 = 1) ∧ (¬ a2 < b2 + c1 → c2 = 0)) (h3 : (a3 < b3 + c2 → c3 = 1) ∧ (¬ a3 < b3 + c2 → c3 = 0)) (hle : V4 b0 b1 b2 b3 ≤ V4 a0 a1 a2 a3) :
    (a0 - b0) % 18446744073709551616 = w4 (V4 a0 a1 a2 a3 - V4 b0 b1 b2 b3) 0 ∧ (a1 - b1 - c0) % 18446744073709551616 = w4 (V4 a0 a1 a2 a3 - V4 b0 b1 b2 b3) 1 ∧ (a2 - b2 - c1) % 18446744073709551616 = w4 (V4 a0 a1 a2 a3 - V4 b0 b1 b2 b3) 2 ∧ (a3 - b3 - c2) % 18446744073709551616 = w4 (V4 a0 a1 a2 a3 - V4 b0 b1 b2 b3) 3 ∧ c3 = 0 := by
  obtain ⟨d0, hd0⟩ : ∃ d, d = (a0 - b0) % 18446744073709551616 := ⟨_, rfl⟩
  obtain ⟨d1, hd1⟩ : ∃ d, d = (a1 - b1 - c0) % 18446744073709551616 := ⟨_, rfl⟩
  obtain ⟨d2, hd2⟩ : ∃ d, d = (a2 - b2 - c1) % 18446744073709551616 := ⟨_, rfl⟩
  obtain ⟨d3, hd3⟩ : ∃ d, d = (a3 - b3 - c2) % 18446744073709551616 := ⟨_, rfl⟩
  have e0 : a0 + 18446744073709551616 * c0 = b0 + d0 := by omega
  have e1 : a1 + 18446744073709551616 * c1 = b1 + c0 + d1 := by omega
  have e2 : a2 + 18446744073709551616 * c2 = b2 + c1 + d2 := by omega
  have e3 : a3 + 18446744073709551616 * c3 = b3 + c2 + d3 := by omega
  have r0 : 0 ≤ d0 ∧ d0 < 18446744073709551616 := by omega
  have r1 : 0 ≤ d1 ∧ d1 < 18446744073709551616 := by omega
  have r2 : 0 ≤ d2 ∧ d2 < 18446744073709551616 := by omega
  have r3 : 0 ≤ d3 ∧ d3 < 18446744073709551616 := by omega
  have k3 : c3 = 0 ∨ c3 = 1 := by omega
  rw [← hd0, ← hd1, ← hd2, ← hd3]
  clear hd0 hd1 hd2 hd3 h0 h1 h2 h3
  have hl := lin4 e0 e1 e2 e3
  rw [← V4_int ha0.1 ha1.1 ha2.1 ha3.1, ← V4_int hb0.1 hb1.1 hb2.1 hb3.1, ← V4_int r0.1 r1.1 r2.1 r3.1] at hl
  have hA := V4_lt ha0 ha1 ha2 ha3
  have hD := V4_lt r0 r1 r2 r3
  have e256 : (2 : Nat) ^ 256 = 115792089237316195423570985008687907853269984665640564039457584007913129639936 := rfl
  rw [e256] at hA hD
  have hv : V4 a0 a1 a2 a3 - V4 b0 b1 b2 b3 = V4 d0 d1 d2 d3 ∧ c3 = 0 := by
    generalize V4 a0 a1 a2 a3 = x at *
    generalize V4 b0 b1 b2 b3 = y at *
    generalize V4 d0 d1 d2 d3 = z at *
    clear e0 e1 e2 e3 ha0 ha1 ha2 ha3 hb0 hb1 hb2 hb3 r0 r1 r2 r3
    omega
  rw [hv.1]
  obtain ⟨f0, f1, f2, f3⟩ := w4_V4 r0 r1 r2 r3
  exact ⟨f0.symm, f1.symm, f2.symm, f3.symm, hv.2⟩
theorem ite01 {p : Prop} [Decidable p] : (p → (if p then (1 : Int) else 0) = 1) ∧ (¬ p → (if p then (1 : Int) else 0) = 0) := ⟨fun h => if_pos h, fun h => if_neg h⟩
theorem blen_V4 {a b c d : Int} (ha : 0 ≤ a ∧ a < 18446744073709551616) (hb : 0 ≤ b ∧ b < 18446744073709551616) (hc : 0 ≤ c ∧ c < 18446744073709551616) (hd : 0 ≤ d ∧ d < 18446744073709551616) :
    (¬ d = 0 → blen (V4 a b c d) = 192 + blen d.toNat) ∧ (d = 0 → ¬ c = 0 → blen (V4 a b c d) = 128 + blen c.toNat) ∧ (d = 0 → c = 0 → ¬ b = 0 → blen (V4 a b c d) = 64 + blen b.toNat) ∧ (d = 0 → c = 0 → b = 0 → blen (V4 a b c d) = blen a.toNat) := by
  have l := lim4 ha hb hc hd
  refine ⟨fun h => ?_, fun h1 h => ?_, fun h1 h2 h => ?_, fun h1 h2 h3 => ?_⟩
  · have hs : sz [a, b, c, d] = 4 := by simp [sz, h]
    have := blen_top l (by rw [hs]; omega)
    rw [hs] at this
    exact this
  · subst h1
    have hs : sz [a, b, c, 0] = 3 := by simp [sz, h]
    have := blen_top l (by rw [hs]; omega)
    rw [hs] at this
    exact this
  · subst h1 h2
    have hs : sz [a, b, 0, 0] = 2 := by simp [sz, h]
    have := blen_top l (by rw [hs]; omega)
    rw [hs] at this
    exact this
  · subst h1 h2 h3
    unfold V4; simp [val]
end Go.AM.LN
set_option maxRecDepth 20000
namespace Go.Proofs.AMT
open Go.AM Go.AM.LN
attribute [local congr] bindO_congr bindS_congr bindG_congr awpOps_congr aOne_congr awp_congr aCond_congr awpD_congr dOne_congr keysB_congr nOne_congr thenP_congr blockP_congr Chk_congr Brk_congr
noncomputable def s40 : CSpec := fun ds => match ds with
  | [.v (.agg ⟨[.int .u64 a0, .int .u64 a1, .int .u64 a2, .int .u64 a3]⟩)] => some ((0 ≤ a0 ∧ a0 < 18446744073709551616) ∧ (0 ≤ a1 ∧ a1 < 18446744073709551616) ∧ (0 ≤ a2 ∧ a2 < 18446744073709551616) ∧ (0 ≤ a3 ∧ a3 < 18446744073709551616), .one (.v (.int .i64 (blen (V4 a0 a1 a2 a3)))))
  | _ => none
theorem s40_eq (a0 a1 a2 a3 : Int) : norm s40 [.v (.agg #[.int .u64 a0, .int .u64 a1, .int .u64 a2, .int .u64 a3])] = some ((0 ≤ a0 ∧ a0 < 18446744073709551616) ∧ (0 ≤ a1 ∧ a1 < 18446744073709551616) ∧ (0 ≤ a2 ∧ a2 < 18446744073709551616) ∧ (0 ≤ a3 ∧ a3 < 18446744073709551616), .one (.v (.int .i64 (blen (V4 a0 a1 a2 a3))))) := rfl
theorem k40_67 : lk G93 67 = some (.body, norm s67) := rfl
set_option maxHeartbeats 20000000 in
theorem w40 (a0 a1 a2 a3 : Int) (hp : (0 ≤ a0 ∧ a0 < 18446744073709551616) ∧ (0 ≤ a1 ∧ a1 < 18446744073709551616) ∧ (0 ≤ a2 ∧ a2 < 18446744073709551616) ∧ (0 ≤ a3 ∧ a3 < 18446744073709551616)) : awp ty G93 (code Try.f40) (retP ty Try.f40.results.toList (.one (.v (.int .i64 (blen (V4 a0 a1 a2 a3)))))) (entry 0 [.v (.agg #[.int .u64 a0, .int .u64 a1, .int .u64 a2, .int .u64 a3])]) [] := by
  unfold code
  simp only [Try.f40, Option.getD_some]
  have hl := blen_V4 hp.1 hp.2.1 hp.2.2.1 hp.2.2.2
  have z0 : a0 = 0 → blen a0.toNat = 0 := fun h => by rw [h]; rfl
  have q0 : blen a0.toNat ≤ 64 := blen_lt.2 (by omega)
  have q1 : blen a1.toNat ≤ 64 := blen_lt.2 (by omega)
  have q2 : blen a2.toNat ≤ 64 := blen_lt.2 (by omega)
  have q3 : blen a3.toNat ≤ 64 := blen_lt.2 (by omega)
  all_goals repeat' (first
    | ((first
       | (with_reducible refine ops_k ?_; intro X hX)
       | (with_reducible refine opsN_k ?_; intro X hX)
       | (with_reducible show awp _ _ _ _ (keepL _ _) _)
       | with_reducible refine awp_cond_k ?_
       | (with_reducible refine Brk_i ?_ ?_ <;> intro hb <;> (try simp only [hb]) <;> have hq := hb <;> try simp only [decide_eq_true_eq, decide_eq_false_iff_not, gt_iff_lt, ge_iff_le, Int.not_lt, Int.not_le, beq_iff_eq, beq_eq_false_iff_ne, Bool.not_eq_true', Bool.not_eq_false', Bool.and_eq_true, Bool.or_eq_true, Bool.and_eq_false_imp, Bool.or_eq_false_iff, ne_eq, Classical.not_not] at hq)
       | with_reducible refine retP_ret_i ?_
       | with_reducible refine retP_normal_i ?_
       | (with_reducible (show bindG _ _ _ _ _); simp only [hall])) <;> try simp only [Go.AM.S1, Go.AM.S2, Go.AM.S3, Go.AM.S4, Go.AM.S5, Go.AM.S6, Go.AM.S7, Go.AM.S8, Go.AM.S9, Nat.reduceAdd, Nat.reduceMul, Nat.reduceSub, ↓reduceIte, Nat.reduceEqDiff, Nat.reduceLT, Nat.reduceLeDiff, reduceCtorEq, Int.reduceBEq, Int.reduceBNe, Nat.reduceBEq, Int.reduceEq, Int.reduceToNat, Int.reduceLE, Int.reduceLT, Nat.reduceDiv, Int.reduceAdd, Int.reduceSub, Int.reduceMul, Int.reduceNeg, Int.reduceGT, Int.reduceGE, Nat.reduceMod, k40_67, s67_eq, ty_3, ty_26, ty_27, Int.mul_zero])
    | (with_reducible refine hX _ _ ?_; clear hX X)
    | with_reducible refine ops_nil_i ?_
    | with_reducible refine opsN_nil_i ?_
    | (with_reducible refine hK _ _ ?_; clear hK K)
    | with_reducible refine thenP_normal_i ?_
    | with_reducible refine zzr6 _ _ ?_
    | with_reducible refine zzsr1 _ _ ?_
    | with_reducible refine zzb1 _ _ ?_
    | with_reducible refine zzr5 _ _ ?_
    | with_reducible refine zzr4 _ _ ?_
    | with_reducible refine zzsr2 _ _ ?_
    | with_reducible refine zzr2 _ _ ?_
    | with_reducible refine zzr1 _ _ ?_
    | with_reducible refine zzr0 _ _ ?_
    | (with_reducible refine awp_unroll (Nat.succ (Nat.succ (Nat.succ (Nat.succ (Nat.succ Nat.zero))))) ?_)
    | (with_reducible refine awp_seq_l (a := .region 6 _ _) [2] ?_; intro Kzzr6 zzr6)
    | (with_reducible refine awp_seq_l (a := .seq (.region 1 _ _) _) [] ?_; intro Kzzsr1 zzsr1)
    | (with_reducible refine awp_seq_l (a := .block 1 _) [1, 3] ?_; intro Kzzb1 zzb1)
    | (with_reducible refine awp_seq_l (a := .region 5 _ _) [2] ?_; intro Kzzr5 zzr5)
    | (with_reducible refine awp_seq_l (a := .region 4 _ _) [1, 3, 14] ?_; intro Kzzr4 zzr4)
    | (with_reducible refine awp_seq_l (a := .seq (.region 2 _ _) _) [1, 3] ?_; intro Kzzsr2 zzsr2)
    | (with_reducible refine awp_seq_l (a := .region 2 _ _) [1, 3, 8] ?_; intro Kzzr2 zzr2)
    | (with_reducible refine awp_seq_l (a := .region 1 _ _) [1, 3] ?_; intro Kzzr1 zzr1)
    | (with_reducible refine awp_seq_l (a := .region 0 _ _) [1] ?_; intro Kzzr0 zzr0)
    | (with_reducible refine awp_seq_k ?_; intro K hK)
    | (with_reducible refine awp_region_a ?_; intro all hall K hK)
    | (with_reducible refine awp_draw_n ?_ ?_; kernel_rfl; intro all hall K hK)
    | (with_reducible refine Chk_i ?_ ?_)
    | (with_reducible refine keysC_i ?_; kernel_rfl)
    | (with_reducible first | refine awp_block_i ?_ | refine awp_skip_i ?_ | refine awp_ret_i ?_ | refine awp_exit_i ?_ | refine thenP_ret_i ?_ | refine thenP_exit_i ?_ | refine lpP_ret_i ?_ | refine lpP_exit_i ?_ | refine unrP_succ_i ?_ | refine unrP_ret_i ?_ | refine unrP_exit_i ?_ | refine blockP_normal_i ?_ | refine blockP_ret_i ?_)
    | (with_reducible refine blockP_exit_i ?_; simp only [↓reduceIte, Nat.reduceEqDiff])
    | with_reducible refine lpP_normal_i ?_)
  all_goals (try simp only [inR])
  all_goals first
    | omega
    | (refine congrArg _ ?_; omega)
theorem sound_40 : Sound Try.prog 40 .body (norm s40) := by
  refine sound_norm (sound_body Try.func40 (show Try.f40.body = some (code Try.f40) from rfl) (by kernel_rfl) tysOk G93_ok (drawOk_ok (by kernel_rfl) tysOk G93_ok) (by kernel_rfl) fun ds p r hs hp => ?_)
  unfold s40 at hs
  split at hs
  · cases hs; exact ⟨Nat.le_of_ble_eq_true (by kernel_rfl), w40 _ _ _ _ hp⟩
  · cases hs
noncomputable def G40 : Gam := (40, .body, norm s40) :: G93
theorem G40_ok : GamOk Try.prog G40 := gamOk_cons sound_40 G93_ok
noncomputable def s92 : CSpec := fun ds => match ds with
  | [.v (.agg ⟨[.int .u64 a0, .int .u64 a1, .int .u64 a2, .int .u64 a3]⟩), .v (.agg ⟨[.int .u64 b0, .int .u64 b1, .int .u64 b2, .int .u64 b3]⟩)] => some (((0 ≤ a0 ∧ a0 < 18446744073709551616) ∧ (0 ≤ a1 ∧ a1 < 18446744073709551616) ∧ (0 ≤ a2 ∧ a2 < 18446744073709551616) ∧ (0 ≤ a3 ∧ a3 < 18446744073709551616)) ∧ ((0 ≤ b0 ∧ b0 < 18446744073709551616) ∧ (0 ≤ b1 ∧ b1 < 18446744073709551616) ∧ (0 ≤ b2 ∧ b2 < 18446744073709551616) ∧ (0 ≤ b3 ∧ b3 < 18446744073709551616)) ∧ V4 b0 b1 b2 b3 ≤ V4 a0 a1 a2 a3, .many [.v (.agg #[.int .u64 (w4 (V4 a0 a1 a2 a3 - V4 b0 b1 b2 b3) 0), .int .u64 (w4 (V4 a0 a1 a2 a3 - V4 b0 b1 b2 b3) 1), .int .u64 (w4 (V4 a0 a1 a2 a3 - V4 b0 b1 b2 b3) 2), .int .u64 (w4 (V4 a0 a1 a2 a3 - V4 b0 b1 b2 b3) 3)]), .v (.int .u64 0)])
  | _ => none
theorem s92_eq (a0 a1 a2 a3 : Int) (b0 b1 b2 b3 : Int) : norm s92 [.v (.agg #[.int .u64 a0, .int .u64 a1, .int .u64 a2, .int .u64 a3]), .v (.agg #[.int .u64 b0, .int .u64 b1, .int .u64 b2, .int .u64 b3])] = some (((0 ≤ a0 ∧ a0 < 18446744073709551616) ∧ (0 ≤ a1 ∧ a1 < 18446744073709551616) ∧ (0 ≤ a2 ∧ a2 < 18446744073709551616) ∧ (0 ≤ a3 ∧ a3 < 18446744073709551616)) ∧ ((0 ≤ b0 ∧ b0 < 18446744073709551616) ∧ (0 ≤ b1 ∧ b1 < 18446744073709551616) ∧ (0 ≤ b2 ∧ b2 < 18446744073709551616) ∧ (0 ≤ b3 ∧ b3 < 18446744073709551616)) ∧ V4 b0 b1 b2 b3 ≤ V4 a0 a1 a2 a3, .many [.v (.agg #[.int .u64 (w4 (V4 a0 a1 a2 a3 - V4 b0 b1 b2 b3) 0), .int .u64 (w4 (V4 a0 a1 a2 a3 - V4 b0 b1 b2 b3) 1), .int .u64 (w4 (V4 a0 a1 a2 a3 - V4 b0 b1 b2 b3) 2), .int .u64 (w4 (V4 a0 a1 a2 a3 - V4 b0 b1 b2 b3) 3)]), .v (.int .u64 0)]) := rfl
theorem k92_98 : lk G40 98 = some (.ext, sSub64) := rfl
set_option maxHeartbeats 20000000 in
theorem w92 (a0 a1 a2 a3 : Int) (b0 b1 b2 b3 : Int) (hp : ((0 ≤ a0 ∧ a0 < 18446744073709551616) ∧ (0 ≤ a1 ∧ a1 < 18446744073709551616) ∧ (0 ≤ a2 ∧ a2 < 18446744073709551616) ∧ (0 ≤ a3 ∧ a3 < 18446744073709551616)) ∧ ((0 ≤ b0 ∧ b0 < 18446744073709551616) ∧ (0 ≤ b1 ∧ b1 < 18446744073709551616) ∧ (0 ≤ b2 ∧ b2 < 18446744073709551616) ∧ (0 ≤ b3 ∧ b3 < 18446744073709551616)) ∧ V4 b0 b1 b2 b3 ≤ V4 a0 a1 a2 a3) : awp ty G40 (code Try.f92) (retP ty Try.f92.results.toList (.many [.v (.agg #[.int .u64 (w4 (V4 a0 a1 a2 a3 - V4 b0 b1 b2 b3) 0), .int .u64 (w4 (V4 a0 a1 a2 a3 - V4 b0 b1 b2 b3) 1), .int .u64 (w4 (V4 a0 a1 a2 a3 - V4 b0 b1 b2 b3) 2), .int .u64 (w4 (V4 a0 a1 a2 a3 - V4 b0 b1 b2 b3) 3)]), .v (.int .u64 0)])) (entry 0 [.v (.agg #[.int .u64 a0, .int .u64 a1, .int .u64 a2, .int .u64 a3]), .v (.agg #[.int .u64 b0, .int .u64 b1, .int .u64 b2, .int .u64 b3])]) [] := by
  unfold code
  simp only [Try.f92, Option.getD_some]
  all_goals repeat' (first
    | ((first
       | (with_reducible refine ops_k ?_; intro X hX)
       | (with_reducible refine opsN_k ?_; intro X hX)
       | (with_reducible show awp _ _ _ _ (keepL _ _) _)
       | (with_reducible refine hX _ _ _ _ ?_; clear hX X)
       | (with_reducible refine opsD_k ?_; intro X hX)
       | with_reducible refine awp_cond_k ?_
       | (with_reducible refine Brk_i ?_ ?_ <;> intro hb <;> (try simp only [hb]) <;> have hq := hb <;> try simp only [decide_eq_true_eq, decide_eq_false_iff_not, gt_iff_lt, ge_iff_le, Int.not_lt, Int.not_le, beq_iff_eq, beq_eq_false_iff_ne, Bool.not_eq_true', Bool.not_eq_false', Bool.and_eq_true, Bool.or_eq_true, Bool.and_eq_false_imp, Bool.or_eq_false_iff, ne_eq, Classical.not_not] at hq)
       | with_reducible refine retP_ret_i ?_
       | with_reducible refine retP_normal_i ?_
       | (with_reducible (show bindG _ _ _ _ _); simp only [hall])) <;> try simp only [Go.AM.S1, Go.AM.S2, Go.AM.S3, Go.AM.S4, Go.AM.S5, Go.AM.S6, Go.AM.S7, Go.AM.S8, Go.AM.S9, Nat.reduceAdd, Nat.reduceMul, Nat.reduceSub, ↓reduceIte, Nat.reduceEqDiff, Nat.reduceLT, Nat.reduceLeDiff, reduceCtorEq, Int.reduceBEq, Int.reduceBNe, Nat.reduceBEq, Int.reduceEq, Int.reduceToNat, Int.reduceLE, Int.reduceLT, Nat.reduceDiv, Int.reduceAdd, Int.reduceSub, Int.reduceMul, Int.reduceNeg, Int.reduceGT, Int.reduceGE, Nat.reduceMod, k92_98, sSub64_eq, ty_3, ty_26, ty_27, Int.sub_zero, Int.add_zero])
    | (with_reducible refine hX _ _ ?_; clear hX X)
    | with_reducible refine opsD_nil_i ?_
    | (with_reducible refine keysB_i ?_; kernel_rfl)
    | ((with_reducible show clashK _ _ _ = true); kernel_rfl)
    | with_reducible refine ops_nil_i ?_
    | with_reducible refine opsN_nil_i ?_
    | (with_reducible refine hK _ _ ?_; clear hK K)
    | with_reducible refine thenP_normal_i ?_
    | with_reducible refine zzr7 _ _ ?_
    | with_reducible refine zzsr2 _ _ ?_
    | with_reducible refine zzb1 _ _ ?_
    | with_reducible refine zzr4 _ _ ?_
    | with_reducible refine zzctmp11 _ _ ?_
    | with_reducible refine zzr3 _ _ ?_
    | with_reducible refine zzr2 _ _ ?_
    | with_reducible refine zzr1 _ _ ?_
    | with_reducible refine zzr0 _ _ ?_
    | (with_reducible refine awp_unroll (Nat.succ (Nat.succ (Nat.succ (Nat.succ (Nat.succ Nat.zero))))) ?_)
    | (with_reducible refine awp_seq_l (a := .region 7 _ _) [4, 5] ?_; intro Kzzr7 zzr7)
    | (with_reducible refine awp_seq_l (a := .seq (.region 2 _ _) _) [2, 4, 6] ?_; intro Kzzsr2 zzsr2)
    | (with_reducible refine awp_seq_l (a := .block 1 _) [2, 3, 4, 6, 9, 10] ?_; intro Kzzb1 zzb1)
    | (with_reducible refine awp_seq_l (a := .region 4 _ _) [2, 3, 4, 6, 7, 9, 10] ?_; intro Kzzr4 zzr4)
    | (with_reducible refine awp_seq_l (a := .cond (.tmp 11) _ _) [2, 3, 4, 6, 9, 10] ?_; intro Kzzctmp11 zzctmp11)
    | (with_reducible refine awp_seq_l (a := .region 3 _ _) [2, 3, 4, 6, 9, 10, 11] ?_; intro Kzzr3 zzr3)
    | (with_reducible refine awp_seq_l (a := .region 2 _ _) [2, 3, 4, 6, 9, 10] ?_; intro Kzzr2 zzr2)
    | (with_reducible refine awp_seq_l (a := .region 1 _ _) [2, 3, 4, 6] ?_; intro Kzzr1 zzr1)
    | (with_reducible refine awp_seq_l (a := .region 0 _ _) [2, 3, 4] ?_; intro Kzzr0 zzr0)
    | (with_reducible refine awp_seq_k ?_; intro K hK)
    | (with_reducible refine awp_region_a ?_; intro all hall K hK)
    | (with_reducible refine awp_draw_a (id := 5) ?_ ?_; kernel_rfl; intro all hall K hK)
    | (with_reducible refine awp_draw_n ?_ ?_; kernel_rfl; intro all hall K hK)
    | (with_reducible refine Chk_i ?_ ?_)
    | (with_reducible refine keysC_i ?_; kernel_rfl)
    | (with_reducible first | refine awp_block_i ?_ | refine awp_skip_i ?_ | refine awp_ret_i ?_ | refine awp_exit_i ?_ | refine thenP_ret_i ?_ | refine thenP_exit_i ?_ | refine lpP_ret_i ?_ | refine lpP_exit_i ?_ | refine unrP_succ_i ?_ | refine unrP_ret_i ?_ | refine unrP_exit_i ?_ | refine blockP_normal_i ?_ | refine blockP_ret_i ?_)
    | (with_reducible refine blockP_exit_i ?_; simp only [↓reduceIte, Nat.reduceEqDiff])
    | with_reducible refine lpP_normal_i ?_)
  all_goals (try simp only [inR])
  all_goals first
    | omega
    | exact ⟨hp.1.1.1, hp.1.1.2, hp.2.1.1.1, hp.2.1.1.2⟩
    | skip
  obtain ⟨⟨x0, x1, x2, x3⟩, ⟨y0, y1, y2, y3⟩, hle⟩ := hp
  obtain ⟨f0, f1, f2, f3, f4⟩ := sub4 x0 x1 x2 x3 y0 y1 y2 y3 ite01 ite01 ite01 ite01 hle
  rw [f0, f1, f2, f3, f4]
  all_goals (first | rfl | exact ⟨rfl, rfl⟩)
theorem sound_92 : Sound Try.prog 92 .body (norm s92) := by
  refine sound_norm (sound_body Try.func92 (show Try.f92.body = some (code Try.f92) from rfl) (by kernel_rfl) tysOk G40_ok (drawOk_ok (by kernel_rfl) tysOk G40_ok) (by kernel_rfl) fun ds p r hs hp => ?_)
  unfold s92 at hs
  split at hs
  · cases hs; exact ⟨Nat.le_of_ble_eq_true (by kernel_rfl), w92 _ _ _ _ _ _ _ _ hp⟩
  · cases hs
noncomputable def G92 : Gam := (92, .body, norm s92) :: G40
theorem G92_ok : GamOk Try.prog G92 := gamOk_cons sound_92 G40_ok
end Go.Proofs.AMT
namespace Go.AM.LN
theorem bit_word {l : List Int} {i s : Nat} (hl : lim l) (hs : s < 64) : AM.bits .and .u64 (l.getD i 0 / 2 ^ s) 1 = ((val l / 2 ^ (64 * i + s) % 2 : Nat) : Int) := by
  have hx := lim_get hl (i := i)
  have hv := val_getD l i hl
  obtain ⟨x, hx2⟩ := Int.eq_ofNat_of_zero_le hx.1
  rw [hx2, Int.toNat_natCast] at hv
  rw [hx2] at hx ⊢
  have e1 : (x : Int) / 2 ^ s = ((x / 2 ^ s : Nat) : Int) := by rw [Int.natCast_ediv, Int.natCast_pow]; rfl
  have hle : x / 2 ^ s ≤ x := Nat.div_le_self _ _
  have hq : x / 2 ^ s < 18446744073709551616 := Nat.lt_of_le_of_lt hle (by omega)
  have h1 := and_mask (a := ((x / 2 ^ s : Nat) : Int)) 1 (nat_lim hq) (by omega)
  rw [show (2 : Int) ^ 1 - 1 = 1 by decide, show (2 : Int) ^ 1 = 2 by decide] at h1
  rw [e1, h1, Nat.pow_add, ← Nat.div_div_eq_div_mul]
  have hD := Nat.div_add_mod (val l / 2 ^ (64 * i)) 18446744073709551616
  rw [hv] at hD
  rw [← hD, Nat.add_comm, shr_val (by omega), show 64 - s = (63 - s) + 1 by omega, Nat.pow_succ, ← Nat.mul_assoc]
  omega
theorem bit4 {a b c d : Int} {s : Nat} (ha : 0 ≤ a ∧ a < 18446744073709551616) (hb : 0 ≤ b ∧ b < 18446744073709551616) (hc : 0 ≤ c ∧ c < 18446744073709551616) (hd : 0 ≤ d ∧ d < 18446744073709551616) (hs : s < 64) :
    AM.bits .and .u64 (a / 2 ^ s) 1 = ((V4 a b c d / 2 ^ (64 * 0 + s) % 2 : Nat) : Int) ∧ AM.bits .and .u64 (b / 2 ^ s) 1 = ((V4 a b c d / 2 ^ (64 * 1 + s) % 2 : Nat) : Int) ∧ AM.bits .and .u64 (c / 2 ^ s) 1 = ((V4 a b c d / 2 ^ (64 * 2 + s) % 2 : Nat) : Int) ∧ AM.bits .and .u64 (d / 2 ^ s) 1 = ((V4 a b c d / 2 ^ (64 * 3 + s) % 2 : Nat) : Int) := by
  have h := lim4 ha hb hc hd
  unfold V4
  have h0 := bit_word (i := 0) h hs
  have h1 := bit_word (i := 1) h hs
  have h2 := bit_word (i := 2) h hs
  have h3 := bit_word (i := 3) h hs
  simp only [List.getD_cons_zero, List.getD_cons_succ] at h0 h1 h2 h3
  exact ⟨h0, h1, h2, h3⟩
theorem V4_mul (a b c d p : Nat) : V4 a b c d * p = a * p + 18446744073709551616 * (b * p + 18446744073709551616 * (c * p + 18446744073709551616 * (d * p))) := by
  unfold V4
  simp only [val, Int.toNat_natCast, Nat.mul_zero, Nat.add_zero]
  simp only [Nat.add_mul, Nat.mul_assoc]
theorem V4_nat (a b c d : Nat) : V4 a b c d = a + 18446744073709551616 * (b + 18446744073709551616 * (c + 18446744073709551616 * d)) := by
  have := V4_mul a b c d 1
  simpa using this
theorem two256 : (2 : Nat) ^ 256 = 115792089237316195423570985008687907853269984665640564039457584007913129639936 := rfl
/-- What the words of a number shifted to the left are. -/
theorem shl4 {a b c d s w : Nat} (ha : a < 18446744073709551616) (hb : b < 18446744073709551616) (hc : c < 18446744073709551616) (hd : d < 18446744073709551616) (hs : s < 64) {o0 o1 o2 o3 : Nat}
    (ho : (w = 0 ∧ o0 = a * 2 ^ s % 18446744073709551616 ∧ o1 = b * 2 ^ s % 18446744073709551616 + a / 2 ^ (64 - s) ∧ o2 = c * 2 ^ s % 18446744073709551616 + b / 2 ^ (64 - s) ∧ o3 = d * 2 ^ s % 18446744073709551616 + c / 2 ^ (64 - s)) ∨
      (w = 1 ∧ o0 = 0 ∧ o1 = a * 2 ^ s % 18446744073709551616 ∧ o2 = b * 2 ^ s % 18446744073709551616 + a / 2 ^ (64 - s) ∧ o3 = c * 2 ^ s % 18446744073709551616 + b / 2 ^ (64 - s)) ∨
      (w = 2 ∧ o0 = 0 ∧ o1 = 0 ∧ o2 = a * 2 ^ s % 18446744073709551616 ∧ o3 = b * 2 ^ s % 18446744073709551616 + a / 2 ^ (64 - s)) ∨
      (w = 3 ∧ o0 = 0 ∧ o1 = 0 ∧ o2 = 0 ∧ o3 = a * 2 ^ s % 18446744073709551616) ∨ (4 ≤ w ∧ o0 = 0 ∧ o1 = 0 ∧ o2 = 0 ∧ o3 = 0)) :
    (V4 a b c d * 2 ^ (64 * w + s)) % 2 ^ 256 = V4 o0 o1 o2 o3 ∧ o0 < 18446744073709551616 ∧ o1 < 18446744073709551616 ∧ o2 < 18446744073709551616 ∧ o3 < 18446744073709551616 := by
  have ea := mul_mod_div ha (show s ≤ 64 by omega)
  have eb := mul_mod_div hb (show s ≤ 64 by omega)
  have ec := mul_mod_div hc (show s ≤ 64 by omega)
  have ed := mul_mod_div hd (show s ≤ 64 by omega)
  have la : a * 2 ^ s % 18446744073709551616 + (2 ^ s - 1) < 18446744073709551616 ∧ b * 2 ^ s % 18446744073709551616 + (2 ^ s - 1) < 18446744073709551616 ∧ c * 2 ^ s % 18446744073709551616 + (2 ^ s - 1) < 18446744073709551616 ∧ d * 2 ^ s % 18446744073709551616 + (2 ^ s - 1) < 18446744073709551616 := by
    have key : ∀ x : Nat, x * 2 ^ s % 18446744073709551616 + (2 ^ s - 1) < 18446744073709551616 := fun x => by
      have e : (18446744073709551616 : Nat) = 2 ^ (64 - s) * 2 ^ s := by rw [← Nat.pow_add, show 64 - s + s = 64 by omega]
      have h1 : x * 2 ^ s % 18446744073709551616 = x % 2 ^ (64 - s) * 2 ^ s := by rw [e, Nat.mul_mod_mul_right]
      have h2 : (x % 2 ^ (64 - s) + 1) * 2 ^ s ≤ 2 ^ (64 - s) * 2 ^ s := Nat.mul_le_mul_right _ (Nat.mod_lt _ (Nat.two_pow_pos _))
      rw [← e, Nat.add_mul, ← h1] at h2
      have := Nat.two_pow_pos s
      omega
    exact ⟨key a, key b, key c, key d⟩
  have lb := hi_lt ha (show s ≤ 64 by omega)
  have lc := hi_lt hb (show s ≤ 64 by omega)
  have ld := hi_lt hc (show s ≤ 64 by omega)
  have hm := V4_mul a b c d (2 ^ s)
  rw [Nat.pow_add, Nat.mul_comm (2 ^ (64 * w)), ← Nat.mul_assoc, hm, two256, V4_nat]
  have hp := Nat.two_pow_pos s
  generalize a * 2 ^ s % 18446744073709551616 = ma at *
  generalize b * 2 ^ s % 18446744073709551616 = mb at *
  generalize c * 2 ^ s % 18446744073709551616 = mc at *
  generalize d * 2 ^ s % 18446744073709551616 = md at *
  generalize a / 2 ^ (64 - s) = xa at *
  generalize b / 2 ^ (64 - s) = xb at *
  generalize c / 2 ^ (64 - s) = xc at *
  generalize d / 2 ^ (64 - s) = xd at *
  rw [← ea, ← eb, ← ec, ← ed]
  clear ea eb ec ed hm ha hb hc hd
  generalize 2 ^ s = p at *
  rcases ho with ⟨rfl, rfl, rfl, rfl, rfl⟩ | ⟨rfl, rfl, rfl, rfl, rfl⟩ | ⟨rfl, rfl, rfl, rfl, rfl⟩ | ⟨rfl, rfl, rfl, rfl, rfl⟩ | ⟨hw, rfl, rfl, rfl, rfl⟩
  · rw [show (2 : Nat) ^ (64 * 0) = 1 from rfl]; omega
  · rw [show (2 : Nat) ^ (64 * 1) = 18446744073709551616 from rfl]; omega
  · rw [show (2 : Nat) ^ (64 * 2) = 340282366920938463463374607431768211456 from rfl]; omega
  · rw [show (2 : Nat) ^ (64 * 3) = 6277101735386680763835789423207666416102355444464034512896 from rfl]; omega
  · obtain ⟨j, rfl⟩ : ∃ j, w = 4 + j := ⟨w - 4, by omega⟩
    rw [show 64 * (4 + j) = 256 + 64 * j by omega, Nat.pow_add, two256, Nat.mul_comm _ (115792089237316195423570985008687907853269984665640564039457584007913129639936 * _), Nat.mul_assoc, Nat.mul_mod_right]
    omega
/-- What the words of a number shifted to the right are. -/
theorem shr4 {a b c d s w : Nat} (ha : a < 18446744073709551616) (hb : b < 18446744073709551616) (hc : c < 18446744073709551616) (hd : d < 18446744073709551616) (hs : s < 64) {o0 o1 o2 o3 : Nat}
    (ho : (w = 0 ∧ o0 = a / 2 ^ s + b * 2 ^ (64 - s) % 18446744073709551616 ∧ o1 = b / 2 ^ s + c * 2 ^ (64 - s) % 18446744073709551616 ∧ o2 = c / 2 ^ s + d * 2 ^ (64 - s) % 18446744073709551616 ∧ o3 = d / 2 ^ s) ∨
      (w = 1 ∧ o0 = b / 2 ^ s + c * 2 ^ (64 - s) % 18446744073709551616 ∧ o1 = c / 2 ^ s + d * 2 ^ (64 - s) % 18446744073709551616 ∧ o2 = d / 2 ^ s ∧ o3 = 0) ∨
      (w = 2 ∧ o0 = c / 2 ^ s + d * 2 ^ (64 - s) % 18446744073709551616 ∧ o1 = d / 2 ^ s ∧ o2 = 0 ∧ o3 = 0) ∨
      (w = 3 ∧ o0 = d / 2 ^ s ∧ o1 = 0 ∧ o2 = 0 ∧ o3 = 0) ∨ (4 ≤ w ∧ o0 = 0 ∧ o1 = 0 ∧ o2 = 0 ∧ o3 = 0)) :
    V4 a b c d / 2 ^ (64 * w + s) = V4 o0 o1 o2 o3 := by
  have key : ∀ x : Nat, x * 2 ^ (64 - s) % 18446744073709551616 + 18446744073709551616 * (x / 2 ^ s) = x * 2 ^ (64 - s) := fun x => by
    have e : (18446744073709551616 : Nat) = 2 ^ s * 2 ^ (64 - s) := by rw [← Nat.pow_add, show s + (64 - s) = 64 by omega]
    have h1 : x * 2 ^ (64 - s) / 18446744073709551616 = x / 2 ^ s := by rw [e, Nat.mul_div_mul_right _ _ (Nat.two_pow_pos _)]
    have := Nat.div_add_mod (x * 2 ^ (64 - s)) 18446744073709551616
    omega
  have kb := key b
  have kc := key c
  have kd := key d
  rw [Nat.pow_add, ← Nat.div_div_eq_div_mul, V4_nat, V4_nat]
  have s0 : ∀ x y z t : Nat, (x + 18446744073709551616 * (y + 18446744073709551616 * (z + 18446744073709551616 * t))) / 2 ^ s = x / 2 ^ s + (y * 2 ^ (64 - s) + 18446744073709551616 * (z * 2 ^ (64 - s) + 18446744073709551616 * (t * 2 ^ (64 - s)))) := fun x y z t => by
    rw [shr_val (by omega)]
    simp only [Nat.add_mul, Nat.mul_assoc]
  rcases ho with ⟨rfl, rfl, rfl, rfl, rfl⟩ | ⟨rfl, rfl, rfl, rfl, rfl⟩ | ⟨rfl, rfl, rfl, rfl, rfl⟩ | ⟨rfl, rfl, rfl, rfl, rfl⟩ | ⟨hw, rfl, rfl, rfl, rfl⟩
  · rw [show (2 : Nat) ^ (64 * 0) = 1 from rfl, Nat.div_one, s0]; omega
  · rw [show (2 : Nat) ^ (64 * 1) = 18446744073709551616 from rfl, show (a + 18446744073709551616 * (b + 18446744073709551616 * (c + 18446744073709551616 * d))) / 18446744073709551616 = b + 18446744073709551616 * (c + 18446744073709551616 * (d + 18446744073709551616 * 0)) by omega, s0]; omega
  · rw [show (2 : Nat) ^ (64 * 2) = 340282366920938463463374607431768211456 from rfl, show (a + 18446744073709551616 * (b + 18446744073709551616 * (c + 18446744073709551616 * d))) / 340282366920938463463374607431768211456 = c + 18446744073709551616 * (d + 18446744073709551616 * (0 + 18446744073709551616 * 0)) by omega, s0]; omega
  · rw [show (2 : Nat) ^ (64 * 3) = 6277101735386680763835789423207666416102355444464034512896 from rfl, show (a + 18446744073709551616 * (b + 18446744073709551616 * (c + 18446744073709551616 * d))) / 6277101735386680763835789423207666416102355444464034512896 = d + 18446744073709551616 * (0 + 18446744073709551616 * (0 + 18446744073709551616 * 0)) by omega, s0]; omega
  · have : a + 18446744073709551616 * (b + 18446744073709551616 * (c + 18446744073709551616 * d)) < 2 ^ (64 * w) := by
      refine Nat.lt_of_lt_of_le (m := 2 ^ 256) ?_ (Nat.pow_le_pow_right (by omega) (by omega))
      rw [two256]; omega
    rw [Nat.div_eq_of_lt this]
    simp
end Go.AM.LN
set_option maxRecDepth 20000
namespace Go.Proofs.AMT
open Go.AM Go.AM.LN
attribute [local congr] bindO_congr bindS_congr bindG_congr awpOps_congr aOne_congr awp_congr aCond_congr awpD_congr dOne_congr keysB_congr nOne_congr thenP_congr blockP_congr Chk_congr Brk_congr
noncomputable def s36 : CSpec := fun ds => match ds with
  | [.v (.agg ⟨[.int .u64 a0, .int .u64 a1, .int .u64 a2, .int .u64 a3]⟩), .v (.int .i64 n)] => some (((0 ≤ a0 ∧ a0 < 18446744073709551616) ∧ (0 ≤ a1 ∧ a1 < 18446744073709551616) ∧ (0 ≤ a2 ∧ a2 < 18446744073709551616) ∧ (0 ≤ a3 ∧ a3 < 18446744073709551616)) ∧ 0 ≤ n ∧ n < 256, .one (.v (.int .u64 (((V4 a0 a1 a2 a3) / 2 ^ n.toNat % 2 : Nat)))))
  | _ => none
theorem s36_eq (a0 a1 a2 a3 : Int) (n : Int) : norm s36 [.v (.agg #[.int .u64 a0, .int .u64 a1, .int .u64 a2, .int .u64 a3]), .v (.int .i64 n)] = some (((0 ≤ a0 ∧ a0 < 18446744073709551616) ∧ (0 ≤ a1 ∧ a1 < 18446744073709551616) ∧ (0 ≤ a2 ∧ a2 < 18446744073709551616) ∧ (0 ≤ a3 ∧ a3 < 18446744073709551616)) ∧ 0 ≤ n ∧ n < 256, .one (.v (.int .u64 (((V4 a0 a1 a2 a3) / 2 ^ n.toNat % 2 : Nat))))) := rfl
set_option maxHeartbeats 20000000 in
theorem w36 (a0 a1 a2 a3 : Int) (n : Int) (hp : ((0 ≤ a0 ∧ a0 < 18446744073709551616) ∧ (0 ≤ a1 ∧ a1 < 18446744073709551616) ∧ (0 ≤ a2 ∧ a2 < 18446744073709551616) ∧ (0 ≤ a3 ∧ a3 < 18446744073709551616)) ∧ 0 ≤ n ∧ n < 256) : awp ty G92 (code Try.f36) (retP ty Try.f36.results.toList (.one (.v (.int .u64 (((V4 a0 a1 a2 a3) / 2 ^ n.toNat % 2 : Nat)))))) (entry 0 [.v (.agg #[.int .u64 a0, .int .u64 a1, .int .u64 a2, .int .u64 a3]), .v (.int .i64 n)]) [] := by
  unfold code
  simp only [Try.f36, Option.getD_some]
  obtain ⟨k, rfl⟩ := Int.eq_ofNat_of_zero_le (show 0 ≤ n by omega)
  have hk : k = 64 * (k / 64) + k % 64 := by omega
  generalize hw : k / 64 = w at *
  generalize hs : k % 64 = s at *
  have hd : (k : Int).tdiv 64 = (w : Int) := by rw [Int.tdiv_eq_ediv_of_nonneg (by omega)]; omega
  have hm : (k : Int).tmod 64 = (s : Int) := by rw [Int.tmod_eq_emod_of_nonneg (by omega)]; omega
  have hmm : (s : Int) % 18446744073709551616 = (s : Int) := by omega
  have m1 : min s 64 = s := by omega
  have m2 : (64 - (s : Int)).toNat = 64 - s := by omega
  have m4 : (64 - (s : Int)) % 18446744073709551616 = 64 - (s : Int) := by omega
  have m3 : min (64 - s) 64 = 64 - s := by omega
  obtain ⟨ha0, ha1, ha2, ha3⟩ := hp.1
  have g1 : decide ((k : Int) < 0) = false := by simp
  have g2 : decide ((k : Int) ≥ 256) = false := by simp only [decide_eq_false_iff_not]; omega
  have hw4 : w = 0 ∨ w = 1 ∨ w = 2 ∨ w = 3 := by omega
  rcases hw4 with h | h | h | h
  all_goals subst h
  all_goals first
    | replace hd : (k : Int).tdiv 64 = 0 := hd
    | replace hd : (k : Int).tdiv 64 = 1 := hd
    | replace hd : (k : Int).tdiv 64 = 2 := hd
    | replace hd : (k : Int).tdiv 64 = 3 := hd
  all_goals repeat' (first
    | ((first
       | (with_reducible refine ops_k ?_; intro X hX)
       | (with_reducible refine opsN_k ?_; intro X hX)
       | (with_reducible show awp _ _ _ _ (keepL _ _) _)
       | with_reducible refine awp_cond_k ?_
       | (with_reducible refine Brk_i ?_ ?_ <;> intro hb <;> (try simp only [hb]) <;> have hq := hb <;> try simp only [decide_eq_true_eq, decide_eq_false_iff_not, gt_iff_lt, ge_iff_le, Int.not_lt, Int.not_le, beq_iff_eq, beq_eq_false_iff_ne, Bool.not_eq_true', Bool.not_eq_false', Bool.and_eq_true, Bool.or_eq_true, Bool.and_eq_false_imp, Bool.or_eq_false_iff, ne_eq, Classical.not_not] at hq)
       | with_reducible refine retP_ret_i ?_
       | with_reducible refine retP_normal_i ?_
       | (with_reducible (show bindG _ _ _ _ _); simp only [hall])) <;> try simp only [Go.AM.S1, Go.AM.S2, Go.AM.S3, Go.AM.S4, Go.AM.S5, Go.AM.S6, Go.AM.S7, Go.AM.S8, Go.AM.S9, Nat.reduceAdd, Nat.reduceMul, Nat.reduceSub, ↓reduceIte, Nat.reduceEqDiff, Nat.reduceLT, Nat.reduceLeDiff, reduceCtorEq, Int.reduceBEq, Int.reduceBNe, Nat.reduceBEq, Int.reduceEq, Int.reduceToNat, Int.reduceLE, Int.reduceLT, Nat.reduceDiv, Int.reduceAdd, Int.reduceSub, Int.reduceMul, Int.reduceNeg, Int.reduceGT, Int.reduceGE, Nat.reduceMod, ty_3, ty_26, ty_27, hd, hm, m1, IntKind.bits, g1, g2])
    | (with_reducible refine hX _ _ ?_; clear hX X)
    | with_reducible refine ops_nil_i ?_
    | with_reducible refine opsN_nil_i ?_
    | (with_reducible refine hK _ _ ?_; clear hK K)
    | with_reducible refine thenP_normal_i ?_
    | with_reducible refine zzr3 _ _ ?_
    | with_reducible refine zzsr1 _ _ ?_
    | with_reducible refine zzr2 _ _ ?_
    | with_reducible refine zzr1 _ _ ?_
    | with_reducible refine zzr0 _ _ ?_
    | (with_reducible refine awp_seq_l (a := .region 3 _ _) [4] ?_; intro Kzzr3 zzr3)
    | (with_reducible refine awp_seq_l (a := .seq (.region 1 _ _) _) [1, 2] ?_; intro Kzzsr1 zzsr1)
    | (with_reducible refine awp_seq_l (a := .region 2 _ _) [4] ?_; intro Kzzr2 zzr2)
    | (with_reducible refine awp_seq_l (a := .region 1 _ _) [1, 2, 13] ?_; intro Kzzr1 zzr1)
    | (with_reducible refine awp_seq_l (a := .region 0 _ _) [1, 2] ?_; intro Kzzr0 zzr0)
    | (with_reducible refine awp_seq_k ?_; intro K hK)
    | (with_reducible refine awp_region_a ?_; intro all hall K hK)
    | (with_reducible refine awp_draw_n ?_ ?_; kernel_rfl; intro all hall K hK)
    | (with_reducible refine Chk_i ?_ ?_)
    | (with_reducible refine keysC_i ?_; kernel_rfl)
    | (with_reducible first | refine awp_block_i ?_ | refine awp_skip_i ?_ | refine awp_ret_i ?_ | refine awp_exit_i ?_ | refine thenP_ret_i ?_ | refine thenP_exit_i ?_ | refine lpP_ret_i ?_ | refine lpP_exit_i ?_ | refine unrP_succ_i ?_ | refine unrP_ret_i ?_ | refine unrP_exit_i ?_ | refine blockP_normal_i ?_ | refine blockP_ret_i ?_)
    | (with_reducible refine blockP_exit_i ?_; simp only [↓reduceIte, Nat.reduceEqDiff])
    | with_reducible refine lpP_normal_i ?_)
  all_goals (try simp only [inR])
  all_goals first
    | omega
    | skip
  all_goals rw [hk]
  all_goals have hb4 := bit4 ha0 ha1 ha2 ha3 (show s < 64 by omega)
  · rw [hb4.1]
  · rw [hb4.2.1]
  · rw [hb4.2.2.1]
  · rw [hb4.2.2.2]
theorem sound_36 : Sound Try.prog 36 .body (norm s36) := by
  refine sound_norm (sound_body Try.func36 (show Try.f36.body = some (code Try.f36) from rfl) (by kernel_rfl) tysOk G92_ok (drawOk_ok (by kernel_rfl) tysOk G92_ok) (by kernel_rfl) fun ds p r hs hp => ?_)
  unfold s36 at hs
  split at hs
  · cases hs; exact ⟨Nat.le_of_ble_eq_true (by kernel_rfl), w36 _ _ _ _ _ hp⟩
  · cases hs
noncomputable def G36 : Gam := (36, .body, norm s36) :: G92
theorem G36_ok : GamOk Try.prog G36 := gamOk_cons sound_36 G92_ok
end Go.Proofs.AMT
namespace Go.AM.LN
theorem castShl (a s : Nat) : (a : Int) * 2 ^ s % 18446744073709551616 = ((a * 2 ^ s % 18446744073709551616 : Nat) : Int) := by
  rw [Int.natCast_emod, Int.natCast_mul, Int.natCast_pow]; rfl
theorem castShr (a s : Nat) : (a : Int) / 2 ^ s = ((a / 2 ^ s : Nat) : Int) := by
  rw [Int.natCast_ediv, Int.natCast_pow]; rfl
theorem shl_wordN {a b s : Nat} (ha : a < 18446744073709551616) (hb : b < 18446744073709551616) (hs : s < 64) : AM.bits .or .u64 ((b * 2 ^ s % 18446744073709551616 : Nat) : Int) ((a / 2 ^ (64 - s) : Nat) : Int) = ((b * 2 ^ s % 18446744073709551616 + a / 2 ^ (64 - s) : Nat) : Int) := by
  have := shl_word (x := b) (y := a) (s := s) ⟨by omega, by omega⟩ ⟨by omega, by omega⟩ (by omega)
  rw [castShl, castShr] at this
  simpa using this
theorem shr_wordN {a b s : Nat} (ha : a < 18446744073709551616) (hb : b < 18446744073709551616) (hs : s < 64) : AM.bits .or .u64 ((a / 2 ^ s : Nat) : Int) ((b * 2 ^ (64 - s) % 18446744073709551616 : Nat) : Int) = ((a / 2 ^ s + b * 2 ^ (64 - s) % 18446744073709551616 : Nat) : Int) := by
  have := shr_word (x := a) (y := b) (s := s) ⟨by omega, by omega⟩ ⟨by omega, by omega⟩ (by omega)
  rw [castShl, castShr] at this
  simpa using this
theorem hi0 {a s : Nat} (ha : a < 18446744073709551616) (hs : s = 0) : a / 2 ^ (64 - s) = 0 := by
  subst hs; exact Nat.div_eq_of_lt ha
theorem lo0 {a s : Nat} (hs : s = 0) : a * 2 ^ (64 - s) % 18446744073709551616 = 0 := by
  subst hs; rw [show (2 : Nat) ^ (64 - 0) = 18446744073709551616 from rfl]; exact Nat.mul_mod_left _ _
theorem w4_of {X o0 o1 o2 o3 : Nat} (h : X = V4 o0 o1 o2 o3) (h0 : o0 < 18446744073709551616) (h1 : o1 < 18446744073709551616) (h2 : o2 < 18446744073709551616) (h3 : o3 < 18446744073709551616) : (o0 : Int) = w4 X 0 ∧ (o1 : Int) = w4 X 1 ∧ (o2 : Int) = w4 X 2 ∧ (o3 : Int) = w4 X 3 := by
  subst h
  have f := w4_V4 (nat_lim h0) (nat_lim h1) (nat_lim h2) (nat_lim h3)
  exact ⟨f.1.symm, f.2.1.symm, f.2.2.1.symm, f.2.2.2.symm⟩
theorem agg4 {a b c d x y z t : Int} (h : a = x ∧ b = y ∧ c = z ∧ d = t) : Value.agg #[.int .u64 a, .int .u64 b, .int .u64 c, .int .u64 d] = Value.agg #[.int .u64 x, .int .u64 y, .int .u64 z, .int .u64 t] := by
  obtain ⟨rfl, rfl, rfl, rfl⟩ := h; rfl
theorem shl4w {a b c d s w k : Nat} (hk : k = 64 * w + s) (ha : a < 18446744073709551616) (hb : b < 18446744073709551616) (hc : c < 18446744073709551616) (hd : d < 18446744073709551616) (hs : s < 64) {o0 o1 o2 o3 : Nat}
    (ho : (w = 0 ∧ o0 = a * 2 ^ s % 18446744073709551616 ∧ o1 = b * 2 ^ s % 18446744073709551616 + a / 2 ^ (64 - s) ∧ o2 = c * 2 ^ s % 18446744073709551616 + b / 2 ^ (64 - s) ∧ o3 = d * 2 ^ s % 18446744073709551616 + c / 2 ^ (64 - s)) ∨
      (w = 1 ∧ o0 = 0 ∧ o1 = a * 2 ^ s % 18446744073709551616 ∧ o2 = b * 2 ^ s % 18446744073709551616 + a / 2 ^ (64 - s) ∧ o3 = c * 2 ^ s % 18446744073709551616 + b / 2 ^ (64 - s)) ∨
      (w = 2 ∧ o0 = 0 ∧ o1 = 0 ∧ o2 = a * 2 ^ s % 18446744073709551616 ∧ o3 = b * 2 ^ s % 18446744073709551616 + a / 2 ^ (64 - s)) ∨
      (w = 3 ∧ o0 = 0 ∧ o1 = 0 ∧ o2 = 0 ∧ o3 = a * 2 ^ s % 18446744073709551616) ∨ (4 ≤ w ∧ o0 = 0 ∧ o1 = 0 ∧ o2 = 0 ∧ o3 = 0)) :
    (o0 : Int) = w4 (V4 a b c d * 2 ^ k % 2 ^ 256) 0 ∧ (o1 : Int) = w4 (V4 a b c d * 2 ^ k % 2 ^ 256) 1 ∧ (o2 : Int) = w4 (V4 a b c d * 2 ^ k % 2 ^ 256) 2 ∧ (o3 : Int) = w4 (V4 a b c d * 2 ^ k % 2 ^ 256) 3 := by
  subst hk
  have h := shl4 ha hb hc hd hs ho
  exact w4_of h.1 h.2.1 h.2.2.1 h.2.2.2.1 h.2.2.2.2
end Go.AM.LN
set_option maxRecDepth 20000
namespace Go.Proofs.AMT
open Go.AM Go.AM.LN
attribute [local congr] bindO_congr bindS_congr bindG_congr awpOps_congr aOne_congr awp_congr aCond_congr awpD_congr dOne_congr keysB_congr nOne_congr thenP_congr blockP_congr Chk_congr Brk_congr
noncomputable def s65 : CSpec := fun ds => match ds with
  | [.v (.agg ⟨[.int .u64 a0, .int .u64 a1, .int .u64 a2, .int .u64 a3]⟩), .v (.int .i64 n)] => some (((0 ≤ a0 ∧ a0 < 18446744073709551616) ∧ (0 ≤ a1 ∧ a1 < 18446744073709551616) ∧ (0 ≤ a2 ∧ a2 < 18446744073709551616) ∧ (0 ≤ a3 ∧ a3 < 18446744073709551616)) ∧ 0 ≤ n ∧ n < 4000000000, .one (.v (.agg #[.int .u64 (w4 (V4 a0 a1 a2 a3 * 2 ^ n.toNat % 2 ^ 256) 0), .int .u64 (w4 (V4 a0 a1 a2 a3 * 2 ^ n.toNat % 2 ^ 256) 1), .int .u64 (w4 (V4 a0 a1 a2 a3 * 2 ^ n.toNat % 2 ^ 256) 2), .int .u64 (w4 (V4 a0 a1 a2 a3 * 2 ^ n.toNat % 2 ^ 256) 3)])))
  | _ => none
theorem s65_eq (a0 a1 a2 a3 : Int) (n : Int) : norm s65 [.v (.agg #[.int .u64 a0, .int .u64 a1, .int .u64 a2, .int .u64 a3]), .v (.int .i64 n)] = some (((0 ≤ a0 ∧ a0 < 18446744073709551616) ∧ (0 ≤ a1 ∧ a1 < 18446744073709551616) ∧ (0 ≤ a2 ∧ a2 < 18446744073709551616) ∧ (0 ≤ a3 ∧ a3 < 18446744073709551616)) ∧ 0 ≤ n ∧ n < 4000000000, .one (.v (.agg #[.int .u64 (w4 (V4 a0 a1 a2 a3 * 2 ^ n.toNat % 2 ^ 256) 0), .int .u64 (w4 (V4 a0 a1 a2 a3 * 2 ^ n.toNat % 2 ^ 256) 1), .int .u64 (w4 (V4 a0 a1 a2 a3 * 2 ^ n.toNat % 2 ^ 256) 2), .int .u64 (w4 (V4 a0 a1 a2 a3 * 2 ^ n.toNat % 2 ^ 256) 3)]))) := rfl
set_option maxHeartbeats 20000000 in
theorem w65 (a0 a1 a2 a3 : Int) (n : Int) (hp : ((0 ≤ a0 ∧ a0 < 18446744073709551616) ∧ (0 ≤ a1 ∧ a1 < 18446744073709551616) ∧ (0 ≤ a2 ∧ a2 < 18446744073709551616) ∧ (0 ≤ a3 ∧ a3 < 18446744073709551616)) ∧ 0 ≤ n ∧ n < 4000000000) : awp ty G36 (code Try.f65) (retP ty Try.f65.results.toList (.one (.v (.agg #[.int .u64 (w4 (V4 a0 a1 a2 a3 * 2 ^ n.toNat % 2 ^ 256) 0), .int .u64 (w4 (V4 a0 a1 a2 a3 * 2 ^ n.toNat % 2 ^ 256) 1), .int .u64 (w4 (V4 a0 a1 a2 a3 * 2 ^ n.toNat % 2 ^ 256) 2), .int .u64 (w4 (V4 a0 a1 a2 a3 * 2 ^ n.toNat % 2 ^ 256) 3)])))) (entry 0 [.v (.agg #[.int .u64 a0, .int .u64 a1, .int .u64 a2, .int .u64 a3]), .v (.int .i64 n)]) [] := by
  unfold code
  simp only [Try.f65, Option.getD_some]
  obtain ⟨k, rfl⟩ := Int.eq_ofNat_of_zero_le (show 0 ≤ n by omega)
  have hk : k = 64 * (k / 64) + k % 64 := by omega
  generalize hw : k / 64 = w at *
  generalize hs : k % 64 = s at *
  have hd : (k : Int).tdiv 64 = (w : Int) := by rw [Int.tdiv_eq_ediv_of_nonneg (by omega)]; omega
  have hm : (k : Int).tmod 64 = (s : Int) := by rw [Int.tmod_eq_emod_of_nonneg (by omega)]; omega
  have hmm : (s : Int) % 18446744073709551616 = (s : Int) := by omega
  have m1 : min s 64 = s := by omega
  have m2 : (64 - (s : Int)).toNat = 64 - s := by omega
  have m4 : (64 - (s : Int)) % 18446744073709551616 = 64 - (s : Int) := by omega
  have m3 : min (64 - s) 64 = 64 - s := by omega
  obtain ⟨ha0, ha1, ha2, ha3⟩ := hp.1
  have hw5 : w = 0 ∨ w = 1 ∨ w = 2 ∨ w = 3 ∨ 4 ≤ w := by omega
  rcases Nat.eq_zero_or_pos k with hk0 | hk0 <;> rcases Nat.eq_zero_or_pos s with hs0 | hs0 <;> rcases hw5 with hw0 | hw0 | hw0 | hw0 | hw0
  all_goals first
    | (exfalso; omega)
    | skip
  all_goals first
    | (have gk : decide ((k : Int) < 1) = false := by simp only [decide_eq_false_iff_not]; omega)
    | (have gk : decide ((k : Int) < 1) = true := by simp only [decide_eq_true_eq]; omega)
  all_goals first
    | (have gs : decide ((s : Int) > 0) = false := by simp only [decide_eq_false_iff_not]; omega)
    | (have gs : decide ((s : Int) > 0) = true := by simp only [decide_eq_true_eq]; omega)
  all_goals first
    | replace hd : (k : Int).tdiv 64 = 0 := by omega
    | replace hd : (k : Int).tdiv 64 = 1 := by omega
    | replace hd : (k : Int).tdiv 64 = 2 := by omega
    | replace hd : (k : Int).tdiv 64 = 3 := by omega
    | skip
  all_goals first
    | (have gw : decide ((3 : Int) ≥ (w : Int)) = false := by simp only [decide_eq_false_iff_not]; omega)
    | (have gw : decide ((4 : Int) ≥ 5) = false := rfl)
  all_goals (obtain ⟨a0, rfl⟩ := Int.eq_ofNat_of_zero_le ha0.1)
  all_goals (obtain ⟨a1, rfl⟩ := Int.eq_ofNat_of_zero_le ha1.1)
  all_goals (obtain ⟨a2, rfl⟩ := Int.eq_ofNat_of_zero_le ha2.1)
  all_goals (obtain ⟨a3, rfl⟩ := Int.eq_ofNat_of_zero_le ha3.1)
  all_goals (have n0 : a0 < 18446744073709551616 := by omega)
  all_goals (have n1 : a1 < 18446744073709551616 := by omega)
  all_goals (have n2 : a2 < 18446744073709551616 := by omega)
  all_goals (have n3 : a3 < 18446744073709551616 := by omega)
  all_goals (have hs64 : s < 64 := by omega)
  all_goals (have or10 := shl_wordN n0 n1 hs64)
  all_goals (have or21 := shl_wordN n1 n2 hs64)
  all_goals (have or32 := shl_wordN n2 n3 hs64)
  all_goals (have ro01 := shr_wordN n0 n1 hs64)
  all_goals (have ro12 := shr_wordN n1 n2 hs64)
  all_goals (have ro23 := shr_wordN n2 n3 hs64)
  all_goals repeat' (first
    | ((first
       | (with_reducible refine ops_k ?_; intro X hX)
       | (with_reducible refine opsN_k ?_; intro X hX)
       | (with_reducible show awp _ _ _ _ (keepL _ _) _)
       | (with_reducible refine hX _ _ _ _ ?_; clear hX X)
       | (with_reducible refine opsD_k ?_; intro X hX)
       | with_reducible refine awp_cond_k ?_
       | (with_reducible refine Brk_i ?_ ?_ <;> intro hb <;> (try simp only [hb]) <;> have hq := hb <;> try simp only [decide_eq_true_eq, decide_eq_false_iff_not, gt_iff_lt, ge_iff_le, Int.not_lt, Int.not_le, beq_iff_eq, beq_eq_false_iff_ne, Bool.not_eq_true', Bool.not_eq_false', Bool.and_eq_true, Bool.or_eq_true, Bool.and_eq_false_imp, Bool.or_eq_false_iff, ne_eq, Classical.not_not] at hq)
       | with_reducible refine retP_ret_i ?_
       | with_reducible refine retP_normal_i ?_
       | (with_reducible (show bindG _ _ _ _ _); simp only [hall])) <;> try simp only [Go.AM.S1, Go.AM.S2, Go.AM.S3, Go.AM.S4, Go.AM.S5, Go.AM.S6, Go.AM.S7, Go.AM.S8, Go.AM.S9, Nat.reduceAdd, Nat.reduceMul, Nat.reduceSub, ↓reduceIte, Nat.reduceEqDiff, Nat.reduceLT, Nat.reduceLeDiff, reduceCtorEq, Int.reduceBEq, Int.reduceBNe, Nat.reduceBEq, Int.reduceEq, Int.reduceToNat, Int.reduceLE, Int.reduceLT, Nat.reduceDiv, Int.reduceAdd, Int.reduceSub, Int.reduceMul, Int.reduceNeg, Int.reduceGT, Int.reduceGE, Nat.reduceMod, ty_3, ty_26, ty_27, ty_72, hd, hm, hmm, m1, m2, m3, m4, IntKind.bits, gk, gs, gw, castShl, castShr, or10, or21, or32])
    | (with_reducible refine hX _ _ ?_; clear hX X)
    | with_reducible refine opsD_nil_i ?_
    | (with_reducible refine keysB_i ?_; kernel_rfl)
    | ((with_reducible show clashK _ _ _ = true); kernel_rfl)
    | with_reducible refine ops_nil_i ?_
    | with_reducible refine opsN_nil_i ?_
    | (with_reducible refine hK _ _ ?_; clear hK K)
    | with_reducible refine thenP_normal_i ?_
    | with_reducible refine zzr11 _ _ ?_
    | with_reducible refine zzsr5 _ _ ?_
    | with_reducible refine zzb1 _ _ ?_
    | with_reducible refine zzr9 _ _ ?_
    | with_reducible refine zzr8 _ _ ?_
    | with_reducible refine zzsr6 _ _ ?_
    | with_reducible refine zzr6 _ _ ?_
    | with_reducible refine zzr5 _ _ ?_
    | with_reducible refine zzr4 _ _ ?_
    | with_reducible refine zzr3 _ _ ?_
    | with_reducible refine zzsr1 _ _ ?_
    | with_reducible refine zzr2 _ _ ?_
    | with_reducible refine zzr1 _ _ ?_
    | with_reducible refine zzr0 _ _ ?_
    | (with_reducible refine awp_unroll (Nat.succ (Nat.succ (Nat.succ (Nat.succ (Nat.succ Nat.zero))))) ?_)
    | (with_reducible refine awp_seq_l (a := .region 11 _ _) [4] ?_; intro Kzzr11 zzr11)
    | (with_reducible refine awp_seq_l (a := .seq (.region 5 _ _) _) [4, 5] ?_; intro Kzzsr5 zzsr5)
    | (with_reducible refine awp_seq_l (a := .block 1 _) [2, 4, 5, 6, 7, 8] ?_; intro Kzzb1 zzb1)
    | (with_reducible refine awp_seq_l (a := .region 9 _ _) [2, 4, 5, 6, 7, 8, 40] ?_; intro Kzzr9 zzr9)
    | (with_reducible refine awp_seq_l (a := .region 8 _ _) [2, 4, 5, 6, 7, 8] ?_; intro Kzzr8 zzr8)
    | (with_reducible refine awp_seq_l (a := .seq (.region 6 _ _) _) [2, 4, 5, 6, 7, 8] ?_; intro Kzzsr6 zzsr6)
    | (with_reducible refine awp_seq_l (a := .region 6 _ _) [2, 4, 5, 6, 7, 8, 22] ?_; intro Kzzr6 zzr6)
    | (with_reducible refine awp_seq_l (a := .region 5 _ _) [2, 4, 5, 6, 7, 8] ?_; intro Kzzr5 zzr5)
    | (with_reducible refine awp_seq_l (a := .region 4 _ _) [2, 4, 5, 6, 7] ?_; intro Kzzr4 zzr4)
    | (with_reducible refine awp_seq_l (a := .region 3 _ _) [1, 2, 4, 5] ?_; intro Kzzr3 zzr3)
    | (with_reducible refine awp_seq_l (a := .seq (.region 1 _ _) _) [1, 2, 4] ?_; intro Kzzsr1 zzsr1)
    | (with_reducible refine awp_seq_l (a := .region 2 _ _) [4] ?_; intro Kzzr2 zzr2)
    | (with_reducible refine awp_seq_l (a := .region 1 _ _) [1, 2, 4, 10] ?_; intro Kzzr1 zzr1)
    | (with_reducible refine awp_seq_l (a := .region 0 _ _) [1, 2, 4] ?_; intro Kzzr0 zzr0)
    | (with_reducible refine awp_seq_k ?_; intro K hK)
    | (with_reducible refine awp_region_a ?_; intro all hall K hK)
    | (with_reducible refine awp_draw_a (id := 10) ?_ ?_; kernel_rfl; intro all hall K hK)
    | (with_reducible refine awp_draw_n ?_ ?_; kernel_rfl; intro all hall K hK)
    | (with_reducible refine Chk_i ?_ ?_)
    | (with_reducible refine keysC_i ?_; kernel_rfl)
    | (with_reducible first | refine awp_block_i ?_ | refine awp_skip_i ?_ | refine awp_ret_i ?_ | refine awp_exit_i ?_ | refine thenP_ret_i ?_ | refine thenP_exit_i ?_ | refine lpP_ret_i ?_ | refine lpP_exit_i ?_ | refine unrP_succ_i ?_ | refine unrP_ret_i ?_ | refine unrP_exit_i ?_ | refine blockP_normal_i ?_ | refine blockP_ret_i ?_)
    | (with_reducible refine blockP_exit_i ?_; simp only [↓reduceIte, Nat.reduceEqDiff])
    | with_reducible refine lpP_normal_i ?_)
  all_goals (try simp only [inR])
  all_goals first
    | omega
    | skip
  all_goals first
    | exact agg4 (shl4w  hk n0 n1 n2 n3 hs64 (.inl ⟨hw0, rfl, rfl, rfl, rfl⟩))
    | exact agg4 (shl4w  hk n0 n1 n2 n3 hs64 (.inl ⟨hw0, rfl, (by rw [hi0 n0 hs0, Nat.add_zero]), (by rw [hi0 n1 hs0, Nat.add_zero]), (by rw [hi0 n2 hs0, Nat.add_zero])⟩))
    | exact agg4 (shl4w (o0 := 0) hk n0 n1 n2 n3 hs64 (.inr (.inl ⟨hw0, rfl, rfl, rfl, rfl⟩)))
    | exact agg4 (shl4w (o0 := 0) hk n0 n1 n2 n3 hs64 (.inr (.inl ⟨hw0, rfl, rfl, (by rw [hi0 n0 hs0, Nat.add_zero]), (by rw [hi0 n1 hs0, Nat.add_zero])⟩)))
    | exact agg4 (shl4w (o0 := 0) (o1 := 0) hk n0 n1 n2 n3 hs64 (.inr (.inr (.inl ⟨hw0, rfl, rfl, rfl, rfl⟩))))
    | exact agg4 (shl4w (o0 := 0) (o1 := 0) hk n0 n1 n2 n3 hs64 (.inr (.inr (.inl ⟨hw0, rfl, rfl, rfl, (by rw [hi0 n0 hs0, Nat.add_zero])⟩))))
    | exact agg4 (shl4w (o0 := 0) (o1 := 0) (o2 := 0) hk n0 n1 n2 n3 hs64 (.inr (.inr (.inr (.inl ⟨hw0, rfl, rfl, rfl, rfl⟩)))))
    | exact agg4 (shl4w (o0 := 0) (o1 := 0) (o2 := 0) hk n0 n1 n2 n3 hs64 (.inr (.inr (.inr (.inl ⟨hw0, rfl, rfl, rfl, rfl⟩)))))
    | exact agg4 (shl4w (o0 := 0) (o1 := 0) (o2 := 0) (o3 := 0) hk n0 n1 n2 n3 hs64 (.inr (.inr (.inr (.inr ⟨hw0, rfl, rfl, rfl, rfl⟩)))))
    | exact agg4 (shl4w (o0 := 0) (o1 := 0) (o2 := 0) (o3 := 0) hk n0 n1 n2 n3 hs64 (.inr (.inr (.inr (.inr ⟨hw0, rfl, rfl, rfl, rfl⟩)))))
    | (rw [hk0, Nat.pow_zero, Nat.mul_one, Nat.mod_eq_of_lt (V4_lt ha0 ha1 ha2 ha3)]
       obtain ⟨f0, f1, f2, f3⟩ := w4_V4 ha0 ha1 ha2 ha3
       rw [f0, f1, f2, f3])
theorem sound_65 : Sound Try.prog 65 .body (norm s65) := by
  refine sound_norm (sound_body Try.func65 (show Try.f65.body = some (code Try.f65) from rfl) (by kernel_rfl) tysOk G36_ok (drawOk_ok (by kernel_rfl) tysOk G36_ok) (by kernel_rfl) fun ds p r hs hp => ?_)
  unfold s65 at hs
  split at hs
  · cases hs; exact ⟨Nat.le_of_ble_eq_true (by kernel_rfl), w65 _ _ _ _ _ hp⟩
  · cases hs
noncomputable def G65 : Gam := (65, .body, norm s65) :: G36
theorem G65_ok : GamOk Try.prog G65 := gamOk_cons sound_65 G36_ok
end Go.Proofs.AMT
namespace Go.AM.LN
theorem shr_lt {a b s : Nat} (ha : a < 18446744073709551616) (hb : b < 18446744073709551616) (hs : s < 64) : a / 2 ^ s + b * 2 ^ (64 - s) % 18446744073709551616 < 18446744073709551616 := by
  have h1 := shr_wordN ha hb hs
  have h2 := or_lim ((a / 2 ^ s : Nat) : Int) ((b * 2 ^ (64 - s) % 18446744073709551616 : Nat) : Int)
  rw [h1] at h2
  omega
theorem div_lt {a s : Nat} (ha : a < 18446744073709551616) : a / 2 ^ s < 18446744073709551616 := Nat.lt_of_le_of_lt (Nat.div_le_self _ _) ha
theorem shr4w {a b c d s w k : Nat} (hk : k = 64 * w + s) (ha : a < 18446744073709551616) (hb : b < 18446744073709551616) (hc : c < 18446744073709551616) (hd : d < 18446744073709551616) (hs : s < 64) {o0 o1 o2 o3 : Nat}
    (ho : (w = 0 ∧ o0 = a / 2 ^ s + b * 2 ^ (64 - s) % 18446744073709551616 ∧ o1 = b / 2 ^ s + c * 2 ^ (64 - s) % 18446744073709551616 ∧ o2 = c / 2 ^ s + d * 2 ^ (64 - s) % 18446744073709551616 ∧ o3 = d / 2 ^ s) ∨
      (w = 1 ∧ o0 = b / 2 ^ s + c * 2 ^ (64 - s) % 18446744073709551616 ∧ o1 = c / 2 ^ s + d * 2 ^ (64 - s) % 18446744073709551616 ∧ o2 = d / 2 ^ s ∧ o3 = 0) ∨
      (w = 2 ∧ o0 = c / 2 ^ s + d * 2 ^ (64 - s) % 18446744073709551616 ∧ o1 = d / 2 ^ s ∧ o2 = 0 ∧ o3 = 0) ∨
      (w = 3 ∧ o0 = d / 2 ^ s ∧ o1 = 0 ∧ o2 = 0 ∧ o3 = 0) ∨ (4 ≤ w ∧ o0 = 0 ∧ o1 = 0 ∧ o2 = 0 ∧ o3 = 0)) :
    (o0 : Int) = w4 (V4 a b c d / 2 ^ k) 0 ∧ (o1 : Int) = w4 (V4 a b c d / 2 ^ k) 1 ∧ (o2 : Int) = w4 (V4 a b c d / 2 ^ k) 2 ∧ (o3 : Int) = w4 (V4 a b c d / 2 ^ k) 3 := by
  subst hk
  have h := shr4 ha hb hc hd hs ho
  have l1 := shr_lt ha hb hs
  have l2 := shr_lt hb hc hs
  have l3 := shr_lt hc hd hs
  have l4 := div_lt (s := s) hd
  rcases ho with ⟨_, rfl, rfl, rfl, rfl⟩ | ⟨_, rfl, rfl, rfl, rfl⟩ | ⟨_, rfl, rfl, rfl, rfl⟩ | ⟨_, rfl, rfl, rfl, rfl⟩ | ⟨_, rfl, rfl, rfl, rfl⟩
  · exact w4_of h l1 l2 l3 l4
  · exact w4_of h l2 l3 l4 (by omega)
  · exact w4_of h l3 l4 (by omega) (by omega)
  · exact w4_of h l4 (by omega) (by omega) (by omega)
  · exact w4_of h (by omega) (by omega) (by omega) (by omega)
end Go.AM.LN
set_option maxRecDepth 20000
namespace Go.Proofs.AMT
open Go.AM Go.AM.LN
attribute [local congr] bindO_congr bindS_congr bindG_congr awpOps_congr aOne_congr awp_congr aCond_congr awpD_congr dOne_congr keysB_congr nOne_congr thenP_congr blockP_congr Chk_congr Brk_congr
noncomputable def s62 : CSpec := fun ds => match ds with
  | [.v (.agg ⟨[.int .u64 a0, .int .u64 a1, .int .u64 a2, .int .u64 a3]⟩), .v (.int .i64 n)] => some (((0 ≤ a0 ∧ a0 < 18446744073709551616) ∧ (0 ≤ a1 ∧ a1 < 18446744073709551616) ∧ (0 ≤ a2 ∧ a2 < 18446744073709551616) ∧ (0 ≤ a3 ∧ a3 < 18446744073709551616)) ∧ 0 ≤ n ∧ n < 4000000000, .one (.v (.agg #[.int .u64 (w4 (V4 a0 a1 a2 a3 / 2 ^ n.toNat) 0), .int .u64 (w4 (V4 a0 a1 a2 a3 / 2 ^ n.toNat) 1), .int .u64 (w4 (V4 a0 a1 a2 a3 / 2 ^ n.toNat) 2), .int .u64 (w4 (V4 a0 a1 a2 a3 / 2 ^ n.toNat) 3)])))
  | _ => none
theorem s62_eq (a0 a1 a2 a3 : Int) (n : Int) : norm s62 [.v (.agg #[.int .u64 a0, .int .u64 a1, .int .u64 a2, .int .u64 a3]), .v (.int .i64 n)] = some (((0 ≤ a0 ∧ a0 < 18446744073709551616) ∧ (0 ≤ a1 ∧ a1 < 18446744073709551616) ∧ (0 ≤ a2 ∧ a2 < 18446744073709551616) ∧ (0 ≤ a3 ∧ a3 < 18446744073709551616)) ∧ 0 ≤ n ∧ n < 4000000000, .one (.v (.agg #[.int .u64 (w4 (V4 a0 a1 a2 a3 / 2 ^ n.toNat) 0), .int .u64 (w4 (V4 a0 a1 a2 a3 / 2 ^ n.toNat) 1), .int .u64 (w4 (V4 a0 a1 a2 a3 / 2 ^ n.toNat) 2), .int .u64 (w4 (V4 a0 a1 a2 a3 / 2 ^ n.toNat) 3)]))) := rfl
set_option maxHeartbeats 20000000 in
theorem w62 (a0 a1 a2 a3 : Int) (n : Int) (hp : ((0 ≤ a0 ∧ a0 < 18446744073709551616) ∧ (0 ≤ a1 ∧ a1 < 18446744073709551616) ∧ (0 ≤ a2 ∧ a2 < 18446744073709551616) ∧ (0 ≤ a3 ∧ a3 < 18446744073709551616)) ∧ 0 ≤ n ∧ n < 4000000000) : awp ty G65 (code Try.f62) (retP ty Try.f62.results.toList (.one (.v (.agg #[.int .u64 (w4 (V4 a0 a1 a2 a3 / 2 ^ n.toNat) 0), .int .u64 (w4 (V4 a0 a1 a2 a3 / 2 ^ n.toNat) 1), .int .u64 (w4 (V4 a0 a1 a2 a3 / 2 ^ n.toNat) 2), .int .u64 (w4 (V4 a0 a1 a2 a3 / 2 ^ n.toNat) 3)])))) (entry 0 [.v (.agg #[.int .u64 a0, .int .u64 a1, .int .u64 a2, .int .u64 a3]), .v (.int .i64 n)]) [] := by
  unfold code
  simp only [Try.f62, Option.getD_some]
  obtain ⟨k, rfl⟩ := Int.eq_ofNat_of_zero_le (show 0 ≤ n by omega)
  have hk : k = 64 * (k / 64) + k % 64 := by omega
  generalize hw : k / 64 = w at *
  generalize hs : k % 64 = s at *
  have hd : (k : Int).tdiv 64 = (w : Int) := by rw [Int.tdiv_eq_ediv_of_nonneg (by omega)]; omega
  have hm : (k : Int).tmod 64 = (s : Int) := by rw [Int.tmod_eq_emod_of_nonneg (by omega)]; omega
  have hmm : (s : Int) % 18446744073709551616 = (s : Int) := by omega
  have m1 : min s 64 = s := by omega
  have m2 : (64 - (s : Int)).toNat = 64 - s := by omega
  have m4 : (64 - (s : Int)) % 18446744073709551616 = 64 - (s : Int) := by omega
  have m3 : min (64 - s) 64 = 64 - s := by omega
  obtain ⟨ha0, ha1, ha2, ha3⟩ := hp.1
  have hw5 : w = 0 ∨ w = 1 ∨ w = 2 ∨ w = 3 ∨ 4 ≤ w := by omega
  rcases Nat.eq_zero_or_pos k with hk0 | hk0 <;> rcases Nat.eq_zero_or_pos s with hs0 | hs0 <;> rcases hw5 with hw0 | hw0 | hw0 | hw0 | hw0
  all_goals first
    | (exfalso; omega)
    | skip
  all_goals first
    | (have gk : decide ((k : Int) < 1) = false := by simp only [decide_eq_false_iff_not]; omega)
    | (have gk : decide ((k : Int) < 1) = true := by simp only [decide_eq_true_eq]; omega)
  all_goals first
    | (have gs : decide ((s : Int) > 0) = false := by simp only [decide_eq_false_iff_not]; omega)
    | (have gs : decide ((s : Int) > 0) = true := by simp only [decide_eq_true_eq]; omega)
  all_goals first
    | replace hd : (k : Int).tdiv 64 = 0 := by omega
    | replace hd : (k : Int).tdiv 64 = 1 := by omega
    | replace hd : (k : Int).tdiv 64 = 2 := by omega
    | replace hd : (k : Int).tdiv 64 = 3 := by omega
    | skip
  all_goals first
    | (have gw : decide ((0 : Int) < 4 - (w : Int)) = false := by simp only [decide_eq_false_iff_not]; omega)
    | (have gw : decide ((4 : Int) ≥ 5) = false := rfl)
  all_goals (obtain ⟨a0, rfl⟩ := Int.eq_ofNat_of_zero_le ha0.1)
  all_goals (obtain ⟨a1, rfl⟩ := Int.eq_ofNat_of_zero_le ha1.1)
  all_goals (obtain ⟨a2, rfl⟩ := Int.eq_ofNat_of_zero_le ha2.1)
  all_goals (obtain ⟨a3, rfl⟩ := Int.eq_ofNat_of_zero_le ha3.1)
  all_goals (have n0 : a0 < 18446744073709551616 := by omega)
  all_goals (have n1 : a1 < 18446744073709551616 := by omega)
  all_goals (have n2 : a2 < 18446744073709551616 := by omega)
  all_goals (have n3 : a3 < 18446744073709551616 := by omega)
  all_goals (have hs64 : s < 64 := by omega)
  all_goals (have or10 := shl_wordN n0 n1 hs64)
  all_goals (have or21 := shl_wordN n1 n2 hs64)
  all_goals (have or32 := shl_wordN n2 n3 hs64)
  all_goals (have ro01 := shr_wordN n0 n1 hs64)
  all_goals (have ro12 := shr_wordN n1 n2 hs64)
  all_goals (have ro23 := shr_wordN n2 n3 hs64)
  all_goals repeat' (first
    | ((first
       | (with_reducible refine ops_k ?_; intro X hX)
       | (with_reducible refine opsN_k ?_; intro X hX)
       | (with_reducible show awp _ _ _ _ (keepL _ _) _)
       | (with_reducible refine hX _ _ _ _ ?_; clear hX X)
       | (with_reducible refine opsD_k ?_; intro X hX)
       | with_reducible refine awp_cond_k ?_
       | (with_reducible refine Brk_i ?_ ?_ <;> intro hb <;> (try simp only [hb]) <;> have hq := hb <;> try simp only [decide_eq_true_eq, decide_eq_false_iff_not, gt_iff_lt, ge_iff_le, Int.not_lt, Int.not_le, beq_iff_eq, beq_eq_false_iff_ne, Bool.not_eq_true', Bool.not_eq_false', Bool.and_eq_true, Bool.or_eq_true, Bool.and_eq_false_imp, Bool.or_eq_false_iff, ne_eq, Classical.not_not] at hq)
       | with_reducible refine retP_ret_i ?_
       | with_reducible refine retP_normal_i ?_
       | (with_reducible (show bindG _ _ _ _ _); simp only [hall])) <;> try simp only [Go.AM.S1, Go.AM.S2, Go.AM.S3, Go.AM.S4, Go.AM.S5, Go.AM.S6, Go.AM.S7, Go.AM.S8, Go.AM.S9, Nat.reduceAdd, Nat.reduceMul, Nat.reduceSub, ↓reduceIte, Nat.reduceEqDiff, Nat.reduceLT, Nat.reduceLeDiff, reduceCtorEq, Int.reduceBEq, Int.reduceBNe, Nat.reduceBEq, Int.reduceEq, Int.reduceToNat, Int.reduceLE, Int.reduceLT, Nat.reduceDiv, Int.reduceAdd, Int.reduceSub, Int.reduceMul, Int.reduceNeg, Int.reduceGT, Int.reduceGE, Nat.reduceMod, ty_3, ty_26, ty_27, ty_72, hd, hm, hmm, m1, m2, m3, m4, IntKind.bits, gk, gs, gw, castShl, castShr, ro01, ro12, ro23])
    | (with_reducible refine hX _ _ ?_; clear hX X)
    | with_reducible refine opsD_nil_i ?_
    | (with_reducible refine keysB_i ?_; kernel_rfl)
    | ((with_reducible show clashK _ _ _ = true); kernel_rfl)
    | with_reducible refine ops_nil_i ?_
    | with_reducible refine opsN_nil_i ?_
    | (with_reducible refine hK _ _ ?_; clear hK K)
    | with_reducible refine thenP_normal_i ?_
    | with_reducible refine zzr11 _ _ ?_
    | with_reducible refine zzsr5 _ _ ?_
    | with_reducible refine zzb1 _ _ ?_
    | with_reducible refine zzr9 _ _ ?_
    | with_reducible refine zzr8 _ _ ?_
    | with_reducible refine zzsr6 _ _ ?_
    | with_reducible refine zzr6 _ _ ?_
    | with_reducible refine zzr5 _ _ ?_
    | with_reducible refine zzr4 _ _ ?_
    | with_reducible refine zzr3 _ _ ?_
    | with_reducible refine zzsr1 _ _ ?_
    | with_reducible refine zzr2 _ _ ?_
    | with_reducible refine zzr1 _ _ ?_
    | with_reducible refine zzr0 _ _ ?_
    | (with_reducible refine awp_unroll (Nat.succ (Nat.succ (Nat.succ (Nat.succ (Nat.succ Nat.zero))))) ?_)
    | (with_reducible refine awp_seq_l (a := .region 11 _ _) [4] ?_; intro Kzzr11 zzr11)
    | (with_reducible refine awp_seq_l (a := .seq (.region 5 _ _) _) [4, 5] ?_; intro Kzzsr5 zzsr5)
    | (with_reducible refine awp_seq_l (a := .block 1 _) [2, 4, 5, 6, 7, 8] ?_; intro Kzzb1 zzb1)
    | (with_reducible refine awp_seq_l (a := .region 9 _ _) [2, 4, 5, 6, 7, 8, 44] ?_; intro Kzzr9 zzr9)
    | (with_reducible refine awp_seq_l (a := .region 8 _ _) [2, 4, 5, 6, 7, 8] ?_; intro Kzzr8 zzr8)
    | (with_reducible refine awp_seq_l (a := .seq (.region 6 _ _) _) [2, 4, 5, 6, 7, 8] ?_; intro Kzzsr6 zzsr6)
    | (with_reducible refine awp_seq_l (a := .region 6 _ _) [2, 4, 5, 6, 7, 8, 22] ?_; intro Kzzr6 zzr6)
    | (with_reducible refine awp_seq_l (a := .region 5 _ _) [2, 4, 5, 6, 7, 8] ?_; intro Kzzr5 zzr5)
    | (with_reducible refine awp_seq_l (a := .region 4 _ _) [2, 4, 5, 6, 7] ?_; intro Kzzr4 zzr4)
    | (with_reducible refine awp_seq_l (a := .region 3 _ _) [1, 2, 4, 5] ?_; intro Kzzr3 zzr3)
    | (with_reducible refine awp_seq_l (a := .seq (.region 1 _ _) _) [1, 2, 4] ?_; intro Kzzsr1 zzsr1)
    | (with_reducible refine awp_seq_l (a := .region 2 _ _) [4] ?_; intro Kzzr2 zzr2)
    | (with_reducible refine awp_seq_l (a := .region 1 _ _) [1, 2, 4, 10] ?_; intro Kzzr1 zzr1)
    | (with_reducible refine awp_seq_l (a := .region 0 _ _) [1, 2, 4] ?_; intro Kzzr0 zzr0)
    | (with_reducible refine awp_seq_k ?_; intro K hK)
    | (with_reducible refine awp_region_a ?_; intro all hall K hK)
    | (with_reducible refine awp_draw_a (id := 10) ?_ ?_; kernel_rfl; intro all hall K hK)
    | (with_reducible refine awp_draw_n ?_ ?_; kernel_rfl; intro all hall K hK)
    | (with_reducible refine Chk_i ?_ ?_)
    | (with_reducible refine keysC_i ?_; kernel_rfl)
    | (with_reducible first | refine awp_block_i ?_ | refine awp_skip_i ?_ | refine awp_ret_i ?_ | refine awp_exit_i ?_ | refine thenP_ret_i ?_ | refine thenP_exit_i ?_ | refine lpP_ret_i ?_ | refine lpP_exit_i ?_ | refine unrP_succ_i ?_ | refine unrP_ret_i ?_ | refine unrP_exit_i ?_ | refine blockP_normal_i ?_ | refine blockP_ret_i ?_)
    | (with_reducible refine blockP_exit_i ?_; simp only [↓reduceIte, Nat.reduceEqDiff])
    | with_reducible refine lpP_normal_i ?_)
  all_goals (try simp only [inR])
  all_goals first
    | omega
    | skip
  all_goals first
    | exact agg4 (shr4w  hk n0 n1 n2 n3 hs64 (.inl ⟨hw0, rfl, rfl, rfl, rfl⟩))
    | exact agg4 (shr4w  hk n0 n1 n2 n3 hs64 (.inl ⟨hw0, (by rw [lo0 hs0, Nat.add_zero]), (by rw [lo0 hs0, Nat.add_zero]), (by rw [lo0 hs0, Nat.add_zero]), rfl⟩))
    | exact agg4 (shr4w (o3 := 0) hk n0 n1 n2 n3 hs64 (.inr (.inl ⟨hw0, rfl, rfl, rfl, rfl⟩)))
    | exact agg4 (shr4w (o3 := 0) hk n0 n1 n2 n3 hs64 (.inr (.inl ⟨hw0, (by rw [lo0 hs0, Nat.add_zero]), (by rw [lo0 hs0, Nat.add_zero]), rfl, rfl⟩)))
    | exact agg4 (shr4w (o2 := 0) (o3 := 0) hk n0 n1 n2 n3 hs64 (.inr (.inr (.inl ⟨hw0, rfl, rfl, rfl, rfl⟩))))
    | exact agg4 (shr4w (o2 := 0) (o3 := 0) hk n0 n1 n2 n3 hs64 (.inr (.inr (.inl ⟨hw0, (by rw [lo0 hs0, Nat.add_zero]), rfl, rfl, rfl⟩))))
    | exact agg4 (shr4w (o1 := 0) (o2 := 0) (o3 := 0) hk n0 n1 n2 n3 hs64 (.inr (.inr (.inr (.inl ⟨hw0, rfl, rfl, rfl, rfl⟩)))))
    | exact agg4 (shr4w (o1 := 0) (o2 := 0) (o3 := 0) hk n0 n1 n2 n3 hs64 (.inr (.inr (.inr (.inl ⟨hw0, rfl, rfl, rfl, rfl⟩)))))
    | exact agg4 (shr4w (o0 := 0) (o1 := 0) (o2 := 0) (o3 := 0) hk n0 n1 n2 n3 hs64 (.inr (.inr (.inr (.inr ⟨hw0, rfl, rfl, rfl, rfl⟩)))))
    | exact agg4 (shr4w (o0 := 0) (o1 := 0) (o2 := 0) (o3 := 0) hk n0 n1 n2 n3 hs64 (.inr (.inr (.inr (.inr ⟨hw0, rfl, rfl, rfl, rfl⟩)))))
    | (rw [hk0, Nat.pow_zero, Nat.div_one]
       obtain ⟨f0, f1, f2, f3⟩ := w4_V4 ha0 ha1 ha2 ha3
       rw [f0, f1, f2, f3])
theorem sound_62 : Sound Try.prog 62 .body (norm s62) := by
  refine sound_norm (sound_body Try.func62 (show Try.f62.body = some (code Try.f62) from rfl) (by kernel_rfl) tysOk G65_ok (drawOk_ok (by kernel_rfl) tysOk G65_ok) (by kernel_rfl) fun ds p r hs hp => ?_)
  unfold s62 at hs
  split at hs
  · cases hs; exact ⟨Nat.le_of_ble_eq_true (by kernel_rfl), w62 _ _ _ _ _ hp⟩
  · cases hs
noncomputable def G62 : Gam := (62, .body, norm s62) :: G65
theorem G62_ok : GamOk Try.prog G62 := gamOk_cons sound_62 G65_ok
end Go.Proofs.AMT
set_option maxRecDepth 20000
namespace Go.Proofs.AMT
open Go.AM Go.AM.LN
attribute [local congr] bindO_congr bindS_congr bindG_congr awpOps_congr aOne_congr awp_congr aCond_congr awpD_congr dOne_congr keysB_congr nOne_congr thenP_congr blockP_congr Chk_congr Brk_congr
noncomputable def s63 : CSpec := fun ds => match ds with
  | [.v (.int .i64 n)] => some (0 ≤ n ∧ n < 256, .one (.v (.agg #[.int .u64 (w4 (2 ^ n.toNat - 1) 0), .int .u64 (w4 (2 ^ n.toNat - 1) 1), .int .u64 (w4 (2 ^ n.toNat - 1) 2), .int .u64 (w4 (2 ^ n.toNat - 1) 3)])))
  | _ => none
theorem s63_eq (n : Int) : norm s63 [.v (.int .i64 n)] = some (0 ≤ n ∧ n < 256, .one (.v (.agg #[.int .u64 (w4 (2 ^ n.toNat - 1) 0), .int .u64 (w4 (2 ^ n.toNat - 1) 1), .int .u64 (w4 (2 ^ n.toNat - 1) 2), .int .u64 (w4 (2 ^ n.toNat - 1) 3)]))) := rfl
theorem k63_65 : lk G62 65 = some (.body, norm s65) := rfl
theorem k63_92 : lk G62 92 = some (.body, norm s92) := rfl
theorem k63_93 : lk G62 93 = some (.body, norm s93) := rfl
set_option maxHeartbeats 20000000 in
theorem w63 (n : Int) (hp : 0 ≤ n ∧ n < 256) : awp ty G62 (code Try.f63) (retP ty Try.f63.results.toList (.one (.v (.agg #[.int .u64 (w4 (2 ^ n.toNat - 1) 0), .int .u64 (w4 (2 ^ n.toNat - 1) 1), .int .u64 (w4 (2 ^ n.toNat - 1) 2), .int .u64 (w4 (2 ^ n.toNat - 1) 3)])))) (entry 0 [.v (.int .i64 n)]) [] := by
  unfold code
  simp only [Try.f63, Option.getD_some]
  obtain ⟨k, rfl⟩ := Int.eq_ofNat_of_zero_le hp.1
  have v1 : V4 1 0 0 0 = 1 := rfl
  have hlt : 2 ^ k < 2 ^ 256 := Nat.pow_lt_pow_right (by omega) (by omega)
  have hM : 2 ^ k % 2 ^ 256 = 2 ^ k := Nat.mod_eq_of_lt hlt
  have hV : V4 (w4 (2 ^ k) 0) (w4 (2 ^ k) 1) (w4 (2 ^ k) 2) (w4 (2 ^ k) 3) = 2 ^ k := V4_w4 hlt
  have g256 : decide ((k : Int) ≥ 256) = false := by simp only [decide_eq_false_iff_not]; omega
  have l0 := w4_lim (2 ^ k) 0
  have l1 := w4_lim (2 ^ k) 1
  have l2 := w4_lim (2 ^ k) 2
  have l3 := w4_lim (2 ^ k) 3
  have hpos := Nat.two_pow_pos k
  all_goals repeat' (first
    | ((first
       | (with_reducible refine ops_k ?_; intro X hX)
       | (with_reducible refine opsN_k ?_; intro X hX)
       | (with_reducible show awp _ _ _ _ (keepL _ _) _)
       | with_reducible refine awp_cond_k ?_
       | (with_reducible refine Brk_i ?_ ?_ <;> intro hb <;> (try simp only [hb]) <;> have hq := hb <;> try simp only [decide_eq_true_eq, decide_eq_false_iff_not, gt_iff_lt, ge_iff_le, Int.not_lt, Int.not_le, beq_iff_eq, beq_eq_false_iff_ne, Bool.not_eq_true', Bool.not_eq_false', Bool.and_eq_true, Bool.or_eq_true, Bool.and_eq_false_imp, Bool.or_eq_false_iff, ne_eq, Classical.not_not] at hq)
       | with_reducible refine retP_ret_i ?_
       | with_reducible refine retP_normal_i ?_
       | (with_reducible (show bindG _ _ _ _ _); simp only [hall])) <;> try simp only [Go.AM.S1, Go.AM.S2, Go.AM.S3, Go.AM.S4, Go.AM.S5, Go.AM.S6, Go.AM.S7, Go.AM.S8, Go.AM.S9, Nat.reduceAdd, Nat.reduceMul, Nat.reduceSub, ↓reduceIte, Nat.reduceEqDiff, Nat.reduceLT, Nat.reduceLeDiff, reduceCtorEq, Int.reduceBEq, Int.reduceBNe, Nat.reduceBEq, Int.reduceEq, Int.reduceToNat, Int.reduceLE, Int.reduceLT, Nat.reduceDiv, Int.reduceAdd, Int.reduceSub, Int.reduceMul, Int.reduceNeg, Int.reduceGT, Int.reduceGE, Nat.reduceMod, k63_65, s65_eq, k63_92, s92_eq, k63_93, s93_eq, ty_3, ty_26, ty_27, ty_28, v1, hV, hM, g256, Nat.one_mul])
    | (with_reducible refine hX _ _ ?_; clear hX X)
    | with_reducible refine ops_nil_i ?_
    | with_reducible refine opsN_nil_i ?_
    | (with_reducible refine hK _ _ ?_; clear hK K)
    | with_reducible refine thenP_normal_i ?_
    | with_reducible refine zzr4 _ _ ?_
    | with_reducible refine zzsr2 _ _ ?_
    | with_reducible refine zzr2 _ _ ?_
    | with_reducible refine zzr1 _ _ ?_
    | with_reducible refine zzr0 _ _ ?_
    | (with_reducible refine awp_seq_l (a := .region 4 _ _) [2] ?_; intro Kzzr4 zzr4)
    | (with_reducible refine awp_seq_l (a := .seq (.region 2 _ _) _) [2, 3] ?_; intro Kzzsr2 zzsr2)
    | (with_reducible refine awp_seq_l (a := .region 2 _ _) [2, 3, 14] ?_; intro Kzzr2 zzr2)
    | (with_reducible refine awp_seq_l (a := .region 1 _ _) [0, 2, 3] ?_; intro Kzzr1 zzr1)
    | (with_reducible refine awp_seq_l (a := .region 0 _ _) [0, 2] ?_; intro Kzzr0 zzr0)
    | (with_reducible refine awp_seq_k ?_; intro K hK)
    | (with_reducible refine awp_region_a ?_; intro all hall K hK)
    | (with_reducible refine awp_draw_n ?_ ?_; kernel_rfl; intro all hall K hK)
    | (with_reducible refine Chk_i ?_ ?_)
    | (with_reducible refine keysC_i ?_; kernel_rfl)
    | (with_reducible first | refine awp_block_i ?_ | refine awp_skip_i ?_ | refine awp_ret_i ?_ | refine awp_exit_i ?_ | refine thenP_ret_i ?_ | refine thenP_exit_i ?_ | refine lpP_ret_i ?_ | refine lpP_exit_i ?_ | refine unrP_succ_i ?_ | refine unrP_ret_i ?_ | refine unrP_exit_i ?_ | refine blockP_normal_i ?_ | refine blockP_ret_i ?_)
    | (with_reducible refine blockP_exit_i ?_; simp only [↓reduceIte, Nat.reduceEqDiff])
    | with_reducible refine lpP_normal_i ?_)
  all_goals (try simp only [inR])
  all_goals first
    | omega
    | exact ⟨⟨l0, l1, l2, l3⟩, ⟨by omega, by omega, by omega, by omega⟩, hpos⟩
    | skip
theorem sound_63 : Sound Try.prog 63 .body (norm s63) := by
  refine sound_norm (sound_body Try.func63 (show Try.f63.body = some (code Try.f63) from rfl) (by kernel_rfl) tysOk G62_ok (drawOk_ok (by kernel_rfl) tysOk G62_ok) (by kernel_rfl) fun ds p r hs hp => ?_)
  unfold s63 at hs
  split at hs
  · cases hs; exact ⟨Nat.le_of_ble_eq_true (by kernel_rfl), w63 _ hp⟩
  · cases hs
noncomputable def G63 : Gam := (63, .body, norm s63) :: G62
theorem G63_ok : GamOk Try.prog G63 := gamOk_cons sound_63 G62_ok
noncomputable def s38 : CSpec := fun ds => match ds with
  | [.v (.int .i64 n)] => some (0 ≤ n ∧ n < 9223372036854775808, .one (.v (.agg #[.int .u64 n, .int .u64 0, .int .u64 0, .int .u64 0])))
  | _ => none
theorem s38_eq (n : Int) : norm s38 [.v (.int .i64 n)] = some (0 ≤ n ∧ n < 9223372036854775808, .one (.v (.agg #[.int .u64 n, .int .u64 0, .int .u64 0, .int .u64 0]))) := rfl
set_option maxHeartbeats 20000000 in
theorem w38 (n : Int) (hp : 0 ≤ n ∧ n < 9223372036854775808) : awp ty G63 (code Try.f38) (retP ty Try.f38.results.toList (.one (.v (.agg #[.int .u64 n, .int .u64 0, .int .u64 0, .int .u64 0])))) (entry 0 [.v (.int .i64 n)]) [] := by
  unfold code
  simp only [Try.f38, Option.getD_some]
  have hn : n % 18446744073709551616 = n := by omega
  all_goals repeat' (first
    | ((first
       | (with_reducible refine ops_k ?_; intro X hX)
       | (with_reducible refine opsN_k ?_; intro X hX)
       | (with_reducible show awp _ _ _ _ (keepL _ _) _)
       | with_reducible refine awp_cond_k ?_
       | (with_reducible refine Brk_i ?_ ?_ <;> intro hb <;> (try simp only [hb]) <;> have hq := hb <;> try simp only [decide_eq_true_eq, decide_eq_false_iff_not, gt_iff_lt, ge_iff_le, Int.not_lt, Int.not_le, beq_iff_eq, beq_eq_false_iff_ne, Bool.not_eq_true', Bool.not_eq_false', Bool.and_eq_true, Bool.or_eq_true, Bool.and_eq_false_imp, Bool.or_eq_false_iff, ne_eq, Classical.not_not] at hq)
       | with_reducible refine retP_ret_i ?_
       | with_reducible refine retP_normal_i ?_
       | (with_reducible (show bindG _ _ _ _ _); simp only [hall])) <;> try simp only [Go.AM.S1, Go.AM.S2, Go.AM.S3, Go.AM.S4, Go.AM.S5, Go.AM.S6, Go.AM.S7, Go.AM.S8, Go.AM.S9, Nat.reduceAdd, Nat.reduceMul, Nat.reduceSub, ↓reduceIte, Nat.reduceEqDiff, Nat.reduceLT, Nat.reduceLeDiff, reduceCtorEq, Int.reduceBEq, Int.reduceBNe, Nat.reduceBEq, Int.reduceEq, Int.reduceToNat, Int.reduceLE, Int.reduceLT, Nat.reduceDiv, Int.reduceAdd, Int.reduceSub, Int.reduceMul, Int.reduceNeg, Int.reduceGT, Int.reduceGE, Nat.reduceMod, ty_3, ty_26, ty_28, hn])
    | (with_reducible refine hX _ _ ?_; clear hX X)
    | with_reducible refine ops_nil_i ?_
    | with_reducible refine opsN_nil_i ?_
    | (with_reducible refine hK _ _ ?_; clear hK K)
    | with_reducible refine thenP_normal_i ?_
    | with_reducible refine zzr1 _ _ ?_
    | with_reducible refine zzr0 _ _ ?_
    | (with_reducible refine awp_seq_l (a := .region 1 _ _) [2] ?_; intro Kzzr1 zzr1)
    | (with_reducible refine awp_seq_l (a := .region 0 _ _) [0, 2] ?_; intro Kzzr0 zzr0)
    | (with_reducible refine awp_seq_k ?_; intro K hK)
    | (with_reducible refine awp_region_a ?_; intro all hall K hK)
    | (with_reducible refine awp_draw_n ?_ ?_; kernel_rfl; intro all hall K hK)
    | (with_reducible refine Chk_i ?_ ?_)
    | (with_reducible refine keysC_i ?_; kernel_rfl)
    | (with_reducible first | refine awp_block_i ?_ | refine awp_skip_i ?_ | refine awp_ret_i ?_ | refine awp_exit_i ?_ | refine thenP_ret_i ?_ | refine thenP_exit_i ?_ | refine lpP_ret_i ?_ | refine lpP_exit_i ?_ | refine unrP_succ_i ?_ | refine unrP_ret_i ?_ | refine unrP_exit_i ?_ | refine blockP_normal_i ?_ | refine blockP_ret_i ?_)
    | (with_reducible refine blockP_exit_i ?_; simp only [↓reduceIte, Nat.reduceEqDiff])
    | with_reducible refine lpP_normal_i ?_)
theorem sound_38 : Sound Try.prog 38 .body (norm s38) := by
  refine sound_norm (sound_body Try.func38 (show Try.f38.body = some (code Try.f38) from rfl) (by kernel_rfl) tysOk G63_ok (drawOk_ok (by kernel_rfl) tysOk G63_ok) (by kernel_rfl) fun ds p r hs hp => ?_)
  unfold s38 at hs
  split at hs
  · cases hs; exact ⟨Nat.le_of_ble_eq_true (by kernel_rfl), w38 _ hp⟩
  · cases hs
noncomputable def G38 : Gam := (38, .body, norm s38) :: G63
theorem G38_ok : GamOk Try.prog G38 := gamOk_cons sound_38 G63_ok
end Go.Proofs.AMT
set_option maxRecDepth 20000
namespace Go.Proofs.AMT
open Go.AM Go.AM.LN
attribute [local congr] bindO_congr bindS_congr bindG_congr awpOps_congr aOne_congr awp_congr aCond_congr awpD_congr dOne_congr keysB_congr nOne_congr thenP_congr blockP_congr Chk_congr Brk_congr
noncomputable def s35 : CSpec := fun ds => match ds with
  | [.v (.agg ⟨[.int .u64 b0, .int .u64 b1, .int .u64 b2, .int .u64 b3]⟩), .v (.int .i64 p), .v (.int .i64 n)] => some (((0 ≤ b0 ∧ b0 < 18446744073709551616) ∧ (0 ≤ b1 ∧ b1 < 18446744073709551616) ∧ (0 ≤ b2 ∧ b2 < 18446744073709551616) ∧ (0 ≤ b3 ∧ b3 < 18446744073709551616)) ∧ (0 ≤ p ∧ p < 4000000000) ∧ 0 ≤ n ∧ n < 256, .one (.v (.agg #[.int .u64 (w4 ((V4 b0 b1 b2 b3) / 2 ^ p.toNat % 2 ^ n.toNat) 0), .int .u64 (w4 ((V4 b0 b1 b2 b3) / 2 ^ p.toNat % 2 ^ n.toNat) 1), .int .u64 (w4 ((V4 b0 b1 b2 b3) / 2 ^ p.toNat % 2 ^ n.toNat) 2), .int .u64 (w4 ((V4 b0 b1 b2 b3) / 2 ^ p.toNat % 2 ^ n.toNat) 3)])))
  | _ => none
theorem s35_eq (b0 b1 b2 b3 : Int) (p : Int) (n : Int) : norm s35 [.v (.agg #[.int .u64 b0, .int .u64 b1, .int .u64 b2, .int .u64 b3]), .v (.int .i64 p), .v (.int .i64 n)] = some (((0 ≤ b0 ∧ b0 < 18446744073709551616) ∧ (0 ≤ b1 ∧ b1 < 18446744073709551616) ∧ (0 ≤ b2 ∧ b2 < 18446744073709551616) ∧ (0 ≤ b3 ∧ b3 < 18446744073709551616)) ∧ (0 ≤ p ∧ p < 4000000000) ∧ 0 ≤ n ∧ n < 256, .one (.v (.agg #[.int .u64 (w4 ((V4 b0 b1 b2 b3) / 2 ^ p.toNat % 2 ^ n.toNat) 0), .int .u64 (w4 ((V4 b0 b1 b2 b3) / 2 ^ p.toNat % 2 ^ n.toNat) 1), .int .u64 (w4 ((V4 b0 b1 b2 b3) / 2 ^ p.toNat % 2 ^ n.toNat) 2), .int .u64 (w4 ((V4 b0 b1 b2 b3) / 2 ^ p.toNat % 2 ^ n.toNat) 3)]))) := rfl
theorem k35_61 : lk G38 61 = some (.body, norm s61) := rfl
theorem k35_62 : lk G38 62 = some (.body, norm s62) := rfl
theorem k35_63 : lk G38 63 = some (.body, norm s63) := rfl
set_option maxHeartbeats 20000000 in
theorem w35 (b0 b1 b2 b3 : Int) (p : Int) (n : Int) (hp : ((0 ≤ b0 ∧ b0 < 18446744073709551616) ∧ (0 ≤ b1 ∧ b1 < 18446744073709551616) ∧ (0 ≤ b2 ∧ b2 < 18446744073709551616) ∧ (0 ≤ b3 ∧ b3 < 18446744073709551616)) ∧ (0 ≤ p ∧ p < 4000000000) ∧ 0 ≤ n ∧ n < 256) : awp ty G38 (code Try.f35) (retP ty Try.f35.results.toList (.one (.v (.agg #[.int .u64 (w4 ((V4 b0 b1 b2 b3) / 2 ^ p.toNat % 2 ^ n.toNat) 0), .int .u64 (w4 ((V4 b0 b1 b2 b3) / 2 ^ p.toNat % 2 ^ n.toNat) 1), .int .u64 (w4 ((V4 b0 b1 b2 b3) / 2 ^ p.toNat % 2 ^ n.toNat) 2), .int .u64 (w4 ((V4 b0 b1 b2 b3) / 2 ^ p.toNat % 2 ^ n.toNat) 3)])))) (entry 0 [.v (.agg #[.int .u64 b0, .int .u64 b1, .int .u64 b2, .int .u64 b3]), .v (.int .i64 p), .v (.int .i64 n)]) [] := by
  unfold code
  simp only [Try.f35, Option.getD_some]
  all_goals repeat' (first
    | ((first
       | (with_reducible refine ops_k ?_; intro X hX)
       | (with_reducible refine opsN_k ?_; intro X hX)
       | (with_reducible show awp _ _ _ _ (keepL _ _) _)
       | with_reducible refine awp_cond_k ?_
       | (with_reducible refine Brk_i ?_ ?_ <;> intro hb <;> (try simp only [hb]) <;> have hq := hb <;> try simp only [decide_eq_true_eq, decide_eq_false_iff_not, gt_iff_lt, ge_iff_le, Int.not_lt, Int.not_le, beq_iff_eq, beq_eq_false_iff_ne, Bool.not_eq_true', Bool.not_eq_false', Bool.and_eq_true, Bool.or_eq_true, Bool.and_eq_false_imp, Bool.or_eq_false_iff, ne_eq, Classical.not_not] at hq)
       | with_reducible refine retP_ret_i ?_
       | with_reducible refine retP_normal_i ?_
       | (with_reducible (show bindG _ _ _ _ _); simp only [hall])) <;> try simp only [Go.AM.S1, Go.AM.S2, Go.AM.S3, Go.AM.S4, Go.AM.S5, Go.AM.S6, Go.AM.S7, Go.AM.S8, Go.AM.S9, Nat.reduceAdd, Nat.reduceMul, Nat.reduceSub, ↓reduceIte, Nat.reduceEqDiff, Nat.reduceLT, Nat.reduceLeDiff, reduceCtorEq, Int.reduceBEq, Int.reduceBNe, Nat.reduceBEq, Int.reduceEq, Int.reduceToNat, Int.reduceLE, Int.reduceLT, Nat.reduceDiv, Int.reduceAdd, Int.reduceSub, Int.reduceMul, Int.reduceNeg, Int.reduceGT, Int.reduceGE, Nat.reduceMod, k35_61, s61_eq, k35_62, s62_eq, k35_63, s63_eq, ty_3, ty_26, ty_27, ty_28, and_w4, Nat.and_two_pow_sub_one_eq_mod])
    | (with_reducible refine hX _ _ ?_; clear hX X)
    | with_reducible refine ops_nil_i ?_
    | with_reducible refine opsN_nil_i ?_
    | (with_reducible refine hK _ _ ?_; clear hK K)
    | with_reducible refine thenP_normal_i ?_
    | with_reducible refine zzr1 _ _ ?_
    | with_reducible refine zzr0 _ _ ?_
    | (with_reducible refine awp_seq_l (a := .region 1 _ _) [6] ?_; intro Kzzr1 zzr1)
    | (with_reducible refine awp_seq_l (a := .region 0 _ _) [1, 2, 3, 6] ?_; intro Kzzr0 zzr0)
    | (with_reducible refine awp_seq_k ?_; intro K hK)
    | (with_reducible refine awp_region_a ?_; intro all hall K hK)
    | (with_reducible refine awp_draw_n ?_ ?_; kernel_rfl; intro all hall K hK)
    | (with_reducible refine Chk_i ?_ ?_)
    | (with_reducible refine keysC_i ?_; kernel_rfl)
    | (with_reducible first | refine awp_block_i ?_ | refine awp_skip_i ?_ | refine awp_ret_i ?_ | refine awp_exit_i ?_ | refine thenP_ret_i ?_ | refine thenP_exit_i ?_ | refine lpP_ret_i ?_ | refine lpP_exit_i ?_ | refine unrP_succ_i ?_ | refine unrP_ret_i ?_ | refine unrP_exit_i ?_ | refine blockP_normal_i ?_ | refine blockP_ret_i ?_)
    | (with_reducible refine blockP_exit_i ?_; simp only [↓reduceIte, Nat.reduceEqDiff])
    | with_reducible refine lpP_normal_i ?_)
  all_goals first
    | omega
    | exact ⟨hp.1, hp.2.1⟩
    | skip
theorem sound_35 : Sound Try.prog 35 .body (norm s35) := by
  refine sound_norm (sound_body Try.func35 (show Try.f35.body = some (code Try.f35) from rfl) (by kernel_rfl) tysOk G38_ok (drawOk_ok (by kernel_rfl) tysOk G38_ok) (by kernel_rfl) fun ds p r hs hp => ?_)
  unfold s35 at hs
  split at hs
  · cases hs; exact ⟨Nat.le_of_ble_eq_true (by kernel_rfl), w35 _ _ _ _ _ _ hp⟩
  · cases hs
noncomputable def G35 : Gam := (35, .body, norm s35) :: G38
theorem G35_ok : GamOk Try.prog G35 := gamOk_cons sound_35 G38_ok
noncomputable def s37 : CSpec := fun ds => match ds with
  | [.v (.agg ⟨[.int .u64 b0, .int .u64 b1, .int .u64 b2, .int .u64 b3]⟩), .v (.agg ⟨[.int .u64 x0, .int .u64 x1, .int .u64 x2, .int .u64 x3]⟩), .v (.int .i64 p)] => some (((0 ≤ b0 ∧ b0 < 18446744073709551616) ∧ (0 ≤ b1 ∧ b1 < 18446744073709551616) ∧ (0 ≤ b2 ∧ b2 < 18446744073709551616) ∧ (0 ≤ b3 ∧ b3 < 18446744073709551616)) ∧ ((0 ≤ x0 ∧ x0 < 18446744073709551616) ∧ (0 ≤ x1 ∧ x1 < 18446744073709551616) ∧ (0 ≤ x2 ∧ x2 < 18446744073709551616) ∧ (0 ≤ x3 ∧ x3 < 18446744073709551616)) ∧ 0 ≤ p ∧ p < 4000000000, .one (.v (.agg #[.int .u64 (w4 ((V4 b0 b1 b2 b3) ||| ((V4 x0 x1 x2 x3) * 2 ^ p.toNat % 2 ^ 256)) 0), .int .u64 (w4 ((V4 b0 b1 b2 b3) ||| ((V4 x0 x1 x2 x3) * 2 ^ p.toNat % 2 ^ 256)) 1), .int .u64 (w4 ((V4 b0 b1 b2 b3) ||| ((V4 x0 x1 x2 x3) * 2 ^ p.toNat % 2 ^ 256)) 2), .int .u64 (w4 ((V4 b0 b1 b2 b3) ||| ((V4 x0 x1 x2 x3) * 2 ^ p.toNat % 2 ^ 256)) 3)])))
  | _ => none
theorem s37_eq (b0 b1 b2 b3 : Int) (x0 x1 x2 x3 : Int) (p : Int) : norm s37 [.v (.agg #[.int .u64 b0, .int .u64 b1, .int .u64 b2, .int .u64 b3]), .v (.agg #[.int .u64 x0, .int .u64 x1, .int .u64 x2, .int .u64 x3]), .v (.int .i64 p)] = some (((0 ≤ b0 ∧ b0 < 18446744073709551616) ∧ (0 ≤ b1 ∧ b1 < 18446744073709551616) ∧ (0 ≤ b2 ∧ b2 < 18446744073709551616) ∧ (0 ≤ b3 ∧ b3 < 18446744073709551616)) ∧ ((0 ≤ x0 ∧ x0 < 18446744073709551616) ∧ (0 ≤ x1 ∧ x1 < 18446744073709551616) ∧ (0 ≤ x2 ∧ x2 < 18446744073709551616) ∧ (0 ≤ x3 ∧ x3 < 18446744073709551616)) ∧ 0 ≤ p ∧ p < 4000000000, .one (.v (.agg #[.int .u64 (w4 ((V4 b0 b1 b2 b3) ||| ((V4 x0 x1 x2 x3) * 2 ^ p.toNat % 2 ^ 256)) 0), .int .u64 (w4 ((V4 b0 b1 b2 b3) ||| ((V4 x0 x1 x2 x3) * 2 ^ p.toNat % 2 ^ 256)) 1), .int .u64 (w4 ((V4 b0 b1 b2 b3) ||| ((V4 x0 x1 x2 x3) * 2 ^ p.toNat % 2 ^ 256)) 2), .int .u64 (w4 ((V4 b0 b1 b2 b3) ||| ((V4 x0 x1 x2 x3) * 2 ^ p.toNat % 2 ^ 256)) 3)]))) := rfl
theorem k37_64 : lk G35 64 = some (.body, norm s64) := rfl
theorem k37_65 : lk G35 65 = some (.body, norm s65) := rfl
set_option maxHeartbeats 20000000 in
theorem w37 (b0 b1 b2 b3 : Int) (x0 x1 x2 x3 : Int) (p : Int) (hp : ((0 ≤ b0 ∧ b0 < 18446744073709551616) ∧ (0 ≤ b1 ∧ b1 < 18446744073709551616) ∧ (0 ≤ b2 ∧ b2 < 18446744073709551616) ∧ (0 ≤ b3 ∧ b3 < 18446744073709551616)) ∧ ((0 ≤ x0 ∧ x0 < 18446744073709551616) ∧ (0 ≤ x1 ∧ x1 < 18446744073709551616) ∧ (0 ≤ x2 ∧ x2 < 18446744073709551616) ∧ (0 ≤ x3 ∧ x3 < 18446744073709551616)) ∧ 0 ≤ p ∧ p < 4000000000) : awp ty G35 (code Try.f37) (retP ty Try.f37.results.toList (.one (.v (.agg #[.int .u64 (w4 ((V4 b0 b1 b2 b3) ||| ((V4 x0 x1 x2 x3) * 2 ^ p.toNat % 2 ^ 256)) 0), .int .u64 (w4 ((V4 b0 b1 b2 b3) ||| ((V4 x0 x1 x2 x3) * 2 ^ p.toNat % 2 ^ 256)) 1), .int .u64 (w4 ((V4 b0 b1 b2 b3) ||| ((V4 x0 x1 x2 x3) * 2 ^ p.toNat % 2 ^ 256)) 2), .int .u64 (w4 ((V4 b0 b1 b2 b3) ||| ((V4 x0 x1 x2 x3) * 2 ^ p.toNat % 2 ^ 256)) 3)])))) (entry 0 [.v (.agg #[.int .u64 b0, .int .u64 b1, .int .u64 b2, .int .u64 b3]), .v (.agg #[.int .u64 x0, .int .u64 x1, .int .u64 x2, .int .u64 x3]), .v (.int .i64 p)]) [] := by
  unfold code
  simp only [Try.f37, Option.getD_some]
  all_goals repeat' (first
    | ((first
       | (with_reducible refine ops_k ?_; intro X hX)
       | (with_reducible refine opsN_k ?_; intro X hX)
       | (with_reducible show awp _ _ _ _ (keepL _ _) _)
       | (with_reducible refine hX _ _ _ _ ?_; clear hX X)
       | (with_reducible refine opsD_k ?_; intro X hX)
       | with_reducible refine awp_cond_k ?_
       | (with_reducible refine Brk_i ?_ ?_ <;> intro hb <;> (try simp only [hb]) <;> have hq := hb <;> try simp only [decide_eq_true_eq, decide_eq_false_iff_not, gt_iff_lt, ge_iff_le, Int.not_lt, Int.not_le, beq_iff_eq, beq_eq_false_iff_ne, Bool.not_eq_true', Bool.not_eq_false', Bool.and_eq_true, Bool.or_eq_true, Bool.and_eq_false_imp, Bool.or_eq_false_iff, ne_eq, Classical.not_not] at hq)
       | with_reducible refine retP_ret_i ?_
       | with_reducible refine retP_normal_i ?_
       | (with_reducible (show bindG _ _ _ _ _); simp only [hall])) <;> try simp only [Go.AM.S1, Go.AM.S2, Go.AM.S3, Go.AM.S4, Go.AM.S5, Go.AM.S6, Go.AM.S7, Go.AM.S8, Go.AM.S9, Nat.reduceAdd, Nat.reduceMul, Nat.reduceSub, ↓reduceIte, Nat.reduceEqDiff, Nat.reduceLT, Nat.reduceLeDiff, reduceCtorEq, Int.reduceBEq, Int.reduceBNe, Nat.reduceBEq, Int.reduceEq, Int.reduceToNat, Int.reduceLE, Int.reduceLT, Nat.reduceDiv, Int.reduceAdd, Int.reduceSub, Int.reduceMul, Int.reduceNeg, Int.reduceGT, Int.reduceGE, Nat.reduceMod, k37_64, s64_eq, k37_65, s65_eq, ty_3, ty_26, ty_27, ty_28])
    | (with_reducible refine hX _ _ ?_; clear hX X)
    | with_reducible refine opsD_nil_i ?_
    | (with_reducible refine keysB_i ?_; kernel_rfl)
    | ((with_reducible show clashK _ _ _ = true); kernel_rfl)
    | with_reducible refine ops_nil_i ?_
    | with_reducible refine opsN_nil_i ?_
    | (with_reducible refine hK _ _ ?_; clear hK K)
    | with_reducible refine thenP_normal_i ?_
    | with_reducible refine zzr1 _ _ ?_
    | with_reducible refine zzr0 _ _ ?_
    | (with_reducible refine awp_seq_l (a := .region 1 _ _) [6] ?_; intro Kzzr1 zzr1)
    | (with_reducible refine awp_seq_l (a := .region 0 _ _) [2, 3, 4, 6] ?_; intro Kzzr0 zzr0)
    | (with_reducible refine awp_seq_k ?_; intro K hK)
    | (with_reducible refine awp_region_a ?_; intro all hall K hK)
    | (with_reducible refine awp_draw_a (id := 1) ?_ ?_; kernel_rfl; intro all hall K hK)
    | (with_reducible refine awp_draw_n ?_ ?_; kernel_rfl; intro all hall K hK)
    | (with_reducible refine Chk_i ?_ ?_)
    | (with_reducible refine keysC_i ?_; kernel_rfl)
    | (with_reducible first | refine awp_block_i ?_ | refine awp_skip_i ?_ | refine awp_ret_i ?_ | refine awp_exit_i ?_ | refine thenP_ret_i ?_ | refine thenP_exit_i ?_ | refine lpP_ret_i ?_ | refine lpP_exit_i ?_ | refine unrP_succ_i ?_ | refine unrP_ret_i ?_ | refine unrP_exit_i ?_ | refine blockP_normal_i ?_ | refine blockP_ret_i ?_)
    | (with_reducible refine blockP_exit_i ?_; simp only [↓reduceIte, Nat.reduceEqDiff])
    | with_reducible refine lpP_normal_i ?_)
  all_goals first
    | omega
    | exact ⟨hp.2.1, hp.2.2⟩
    | skip
  all_goals (obtain ⟨f0, f1, f2, f3⟩ := w4_V4 hp.1.1 hp.1.2.1 hp.1.2.2.1 hp.1.2.2.2)
  all_goals (refine agg4 ⟨?_, ?_, ?_, ?_⟩)
  · rw [← or_w4, f0]
  · rw [← or_w4, f1]
  · rw [← or_w4, f2]
  · rw [← or_w4, f3]
theorem sound_37 : Sound Try.prog 37 .body (norm s37) := by
  refine sound_norm (sound_body Try.func37 (show Try.f37.body = some (code Try.f37) from rfl) (by kernel_rfl) tysOk G35_ok (drawOk_ok (by kernel_rfl) tysOk G35_ok) (by kernel_rfl) fun ds p r hs hp => ?_)
  unfold s37 at hs
  split at hs
  · cases hs; exact ⟨Nat.le_of_ble_eq_true (by kernel_rfl), w37 _ _ _ _ _ _ _ _ _ hp⟩
  · cases hs
noncomputable def G37 : Gam := (37, .body, norm s37) :: G35
theorem G37_ok : GamOk Try.prog G37 := gamOk_cons sound_37 G35_ok
end Go.Proofs.AMT
