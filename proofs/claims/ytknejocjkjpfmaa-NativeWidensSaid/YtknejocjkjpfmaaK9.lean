/- Part 9 of the proof: own text (A21, A22, A23, A24, A25, LN14, A26, A27, A28, A29). -/
import Derived.Test.YtknejocjkjpfmaaK0
import Derived.Test.YtknejocjkjpfmaaK1
import Derived.Test.YtknejocjkjpfmaaK2
import Derived.Test.YtknejocjkjpfmaaK3
import Derived.Test.YtknejocjkjpfmaaK4
import Derived.Test.YtknejocjkjpfmaaK5
import Derived.Test.YtknejocjkjpfmaaK6
import Derived.Test.YtknejocjkjpfmaaK7
import Derived.Test.YtknejocjkjpfmaaK8
set_option linter.all false
set_option maxRecDepth 20000
namespace Go.Proofs.AMT
open Go.AM Go.AM.LN
attribute [local congr] bindO_congr bindS_congr bindG_congr awpOps_congr aOne_congr awp_congr aCond_congr awpD_congr dOne_congr keysB_congr nOne_congr thenP_congr blockP_congr Chk_congr Brk_congr
noncomputable def s24 : CSpec := fun ds => match ds with
  | [.v (.int .i64 d)] => some (True, .one (.v (.bool (decide (d ≥ 0) && decide (d ≤ 4)))))
  | _ => none
theorem s24_eq (d : Int) : norm s24 [.v (.int .i64 d)] = some (True, .one (.v (.bool (decide (d ≥ 0) && decide (d ≤ 4))))) := rfl
set_option maxHeartbeats 20000000 in
theorem w24 (d : Int) (hp : True) : awp ty G37 (code Try.f24) (retP ty Try.f24.results.toList (.one (.v (.bool (decide (d ≥ 0) && decide (d ≤ 4)))))) (entry 0 [.v (.int .i64 d)]) [] := by
  unfold code
  simp only [Try.f24, Option.getD_some]
  all_goals repeat' (first
    | ((first
       | (with_reducible refine ops_k ?_; intro X hX)
       | (with_reducible refine opsN_k ?_; intro X hX)
       | (with_reducible show awp _ _ _ _ (keepL _ _) _)
       | with_reducible refine awp_cond_k ?_
       | (with_reducible refine Brk_i ?_ ?_ <;> intro hb <;> (try simp only [hb]) <;> have hq := hb <;> try simp only [decide_eq_true_eq, decide_eq_false_iff_not, gt_iff_lt, ge_iff_le, Int.not_lt, Int.not_le, beq_iff_eq, beq_eq_false_iff_ne, Bool.not_eq_true', Bool.not_eq_false', Bool.and_eq_true, Bool.or_eq_true, Bool.and_eq_false_imp, Bool.or_eq_false_iff, ne_eq, Classical.not_not] at hq)
       | with_reducible refine retP_ret_i ?_
       | with_reducible refine retP_normal_i ?_
       | (with_reducible (show bindG _ _ _ _ _); simp only [hall])) <;> try simp only [Go.AM.S1, Go.AM.S2, Go.AM.S3, Go.AM.S4, Go.AM.S5, Go.AM.S6, Go.AM.S7, Go.AM.S8, Go.AM.S9, Nat.reduceAdd, Nat.reduceMul, Nat.reduceSub, ↓reduceIte, Nat.reduceEqDiff, Nat.reduceLT, Nat.reduceLeDiff, reduceCtorEq, Int.reduceBEq, Int.reduceBNe, Nat.reduceBEq, Int.reduceEq, Int.reduceToNat, Int.reduceLE, Int.reduceLT, Nat.reduceDiv, Int.reduceAdd, Int.reduceSub, Int.reduceMul, Int.reduceNeg, Int.reduceGT, Int.reduceGE, Nat.reduceMod, ty_3])
    | (with_reducible refine hX _ _ ?_; clear hX X)
    | with_reducible refine ops_nil_i ?_
    | with_reducible refine opsN_nil_i ?_
    | (with_reducible refine hK _ _ ?_; clear hK K)
    | with_reducible refine thenP_normal_i ?_
    | with_reducible refine zzr1 _ _ ?_
    | with_reducible refine zzr0 _ _ ?_
    | (with_reducible refine awp_seq_l (a := .region 1 _ _) [2] ?_; intro Kzzr1 zzr1)
    | (with_reducible refine awp_seq_l (a := .region 0 _ _) [0] ?_; intro Kzzr0 zzr0)
    | (with_reducible refine awp_seq_k ?_; intro K hK)
    | (with_reducible refine awp_region_a ?_; intro all hall K hK)
    | (with_reducible refine awp_draw_n ?_ ?_; kernel_rfl; intro all hall K hK)
    | (with_reducible refine Chk_i ?_ ?_)
    | (with_reducible refine keysC_i ?_; kernel_rfl)
    | (with_reducible first | refine awp_block_i ?_ | refine awp_skip_i ?_ | refine awp_ret_i ?_ | refine awp_exit_i ?_ | refine thenP_ret_i ?_ | refine thenP_exit_i ?_ | refine lpP_ret_i ?_ | refine lpP_exit_i ?_ | refine unrP_succ_i ?_ | refine unrP_ret_i ?_ | refine unrP_exit_i ?_ | refine blockP_normal_i ?_ | refine blockP_ret_i ?_)
    | (with_reducible refine blockP_exit_i ?_; simp only [↓reduceIte, Nat.reduceEqDiff])
    | with_reducible refine lpP_normal_i ?_)
  all_goals (first | rfl | (simp [hb]; done) | skip)
theorem sound_24 : Sound Try.prog 24 .body (norm s24) := by
  refine sound_norm (sound_body Try.func24 (show Try.f24.body = some (code Try.f24) from rfl) (by kernel_rfl) tysOk G37_ok (drawOk_ok (by kernel_rfl) tysOk G37_ok) (by kernel_rfl) fun ds p r hs hp => ?_)
  unfold s24 at hs
  split at hs
  · cases hs; exact ⟨Nat.le_of_ble_eq_true (by kernel_rfl), w24 _ hp⟩
  · cases hs
noncomputable def G24 : Gam := (24, .body, norm s24) :: G37
theorem G24_ok : GamOk Try.prog G24 := gamOk_cons sound_24 G37_ok
noncomputable def ofR (n : Int) : Option (Prop × Res) := (lk (GamN ty 1000 bodies extB 10) 39).bind fun s => s.2 [.v (.int .i64 n)]
def nmOf : Option (Prop × Res) → ByteArray
  | some (_, .many [.v (.agg ⟨_ :: .string s :: _⟩), _]) => s
  | _ => ByteArray.empty
noncomputable def fnm (n : Int) : ByteArray := nmOf (ofR n)
def fp (n : Int) : Int := [0, 11, 8, 24, 53, 113, 241].getD n.toNat 0
def fx (n : Int) : Int := [0, 5, 8, 8, 11, 15, 15].getD n.toNat 0
def fe (n : Int) : Int := [0, 15, 127, 127, 1023, 16383, 16383].getD n.toNat 0
theorem ofR_1 : ofR 1 = some (True, .many [.v (.agg #[.int .i64 1, .string (fnm 1), .int .i64 2, .int .i64 (fp 1 + fx 1), .int .i64 (fp 1), .int .i64 (fx 1), .int .i64 (2 - fe 1 - fp 1), .int .i64 (fe 1 + 1 - fp 1), .int .i64 (fp 1 - 2), .bool false]), .v (.int .i64 0)]) := by kernel_rfl
theorem ofR_2 : ofR 2 = some (True, .many [.v (.agg #[.int .i64 2, .string (fnm 2), .int .i64 2, .int .i64 (fp 2 + fx 2), .int .i64 (fp 2), .int .i64 (fx 2), .int .i64 (2 - fe 2 - fp 2), .int .i64 (fe 2 + 1 - fp 2), .int .i64 (fp 2 - 2), .bool false]), .v (.int .i64 0)]) := by kernel_rfl
theorem ofR_3 : ofR 3 = some (True, .many [.v (.agg #[.int .i64 3, .string (fnm 3), .int .i64 2, .int .i64 (fp 3 + fx 3), .int .i64 (fp 3), .int .i64 (fx 3), .int .i64 (2 - fe 3 - fp 3), .int .i64 (fe 3 + 1 - fp 3), .int .i64 (fp 3 - 2), .bool false]), .v (.int .i64 0)]) := by kernel_rfl
theorem ofR_4 : ofR 4 = some (True, .many [.v (.agg #[.int .i64 4, .string (fnm 4), .int .i64 2, .int .i64 (fp 4 + fx 4), .int .i64 (fp 4), .int .i64 (fx 4), .int .i64 (2 - fe 4 - fp 4), .int .i64 (fe 4 + 1 - fp 4), .int .i64 (fp 4 - 2), .bool false]), .v (.int .i64 0)]) := by kernel_rfl
theorem ofR_5 : ofR 5 = some (True, .many [.v (.agg #[.int .i64 5, .string (fnm 5), .int .i64 2, .int .i64 (fp 5 + fx 5), .int .i64 (fp 5), .int .i64 (fx 5), .int .i64 (2 - fe 5 - fp 5), .int .i64 (fe 5 + 1 - fp 5), .int .i64 (fp 5 - 2), .bool false]), .v (.int .i64 0)]) := by kernel_rfl
theorem ofR_6 : ofR 6 = some (True, .many [.v (.agg #[.int .i64 6, .string (fnm 6), .int .i64 2, .int .i64 (fp 6 + fx 6), .int .i64 (fp 6), .int .i64 (fx 6), .int .i64 (2 - fe 6 - fp 6), .int .i64 (fe 6 + 1 - fp 6), .int .i64 (fp 6 - 2), .bool false]), .v (.int .i64 0)]) := by kernel_rfl
noncomputable def s39 : CSpec := fun ds => match ds with
  | [.v (.int .i64 n)] => some (1 ≤ n ∧ n ≤ 6, .many [.v (.agg #[.int .i64 n, .string (fnm n), .int .i64 2, .int .i64 (fp n + fx n), .int .i64 (fp n), .int .i64 (fx n), .int .i64 (2 - fe n - fp n), .int .i64 (fe n + 1 - fp n), .int .i64 (fp n - 2), .bool false]), .v (.int .i64 0)])
  | _ => none
theorem s39_eq (n : Int) : norm s39 [.v (.int .i64 n)] = some (1 ≤ n ∧ n ≤ 6, .many [.v (.agg #[.int .i64 n, .string (fnm n), .int .i64 2, .int .i64 (fp n + fx n), .int .i64 (fp n), .int .i64 (fx n), .int .i64 (2 - fe n - fp n), .int .i64 (fe n + 1 - fp n), .int .i64 (fp n - 2), .bool false]), .v (.int .i64 0)]) := rfl
theorem sound_39 : Sound Try.prog 39 .body (norm s39) := by
  have hg := (GamN_ok (fuel := 1000) (P := Try.prog) (by kernel_rfl) tysOk extB_ok extB_free bodies_ok bodies_some 10).1
  have h : ofR 1 = some (True, .many [.v (.agg #[.int .i64 1, .string (fnm 1), .int .i64 2, .int .i64 (fp 1 + fx 1), .int .i64 (fp 1), .int .i64 (fx 1), .int .i64 (2 - fe 1 - fp 1), .int .i64 (fe 1 + 1 - fp 1), .int .i64 (fp 1 - 2), .bool false]), .v (.int .i64 0)]) := ofR_1
  unfold ofR at h
  obtain ⟨⟨fk, spec⟩, h1, h2⟩ := Option.bind_eq_some_iff.1 h
  have hs := hg 39 fk spec h1
  have hfk : fk = .body := by
    have : (lk (GamN ty 1000 bodies extB 10) 39).map (·.1) = some .body := by kernel_rfl
    rw [h1] at this
    exact Option.some.inj this
  subst hfk
  have hR : ∀ n, ofR n = spec [.v (.int .i64 n)] := fun n => by unfold ofR; rw [h1]; rfl
  refine sound_norm (sound_weaken hs fun ds p r h3 h4 => ?_)
  unfold s39 at h3
  split at h3
  · rename_i n
    cases h3
    have hn : n = 1 ∨ n = 2 ∨ n = 3 ∨ n = 4 ∨ n = 5 ∨ n = 6 := by omega
    refine ⟨True, ?_, trivial⟩
    rw [← hR]
    rcases hn with rfl | rfl | rfl | rfl | rfl | rfl
    · exact ofR_1
    · exact ofR_2
    · exact ofR_3
    · exact ofR_4
    · exact ofR_5
    · exact ofR_6
  · cases h3
noncomputable def G39 : Gam := (39, .body, norm s39) :: G24
theorem G39_ok : GamOk Try.prog G39 := gamOk_cons sound_39 G24_ok
end Go.Proofs.AMT
set_option maxRecDepth 20000
namespace Go.Proofs.AMT
open Go.AM Go.AM.LN
attribute [local congr] bindO_congr bindS_congr bindG_congr awpOps_congr aOne_congr awp_congr aCond_congr awpD_congr dOne_congr keysB_congr nOne_congr thenP_congr blockP_congr Chk_congr Brk_congr
noncomputable def s23 : CSpec := fun ds => match ds with
  | [.v (.int .i64 n), .v (.agg ⟨[.int .u64 b0, .int .u64 b1, .int .u64 b2, .int .u64 b3]⟩)] => some ((1 ≤ n ∧ n ≤ 6) ∧ (0 ≤ b0 ∧ b0 < 18446744073709551616) ∧ (0 ≤ b1 ∧ b1 < 18446744073709551616) ∧ (0 ≤ b2 ∧ b2 < 18446744073709551616) ∧ (0 ≤ b3 ∧ b3 < 18446744073709551616), .many [.v (.agg #[.int .i64 n, .string (fnm n), .int .i64 2, .int .i64 (fp n + fx n), .int .i64 (fp n), .int .i64 (fx n), .int .i64 (2 - fe n - fp n), .int .i64 (fe n + 1 - fp n), .int .i64 (fp n - 2), .bool false]), .v (.bool (decide ((blen (V4 b0 b1 b2 b3) : Int) ≤ fp n + fx n)))])
  | _ => none
theorem s23_eq (n : Int) (b0 b1 b2 b3 : Int) : norm s23 [.v (.int .i64 n), .v (.agg #[.int .u64 b0, .int .u64 b1, .int .u64 b2, .int .u64 b3])] = some ((1 ≤ n ∧ n ≤ 6) ∧ (0 ≤ b0 ∧ b0 < 18446744073709551616) ∧ (0 ≤ b1 ∧ b1 < 18446744073709551616) ∧ (0 ≤ b2 ∧ b2 < 18446744073709551616) ∧ (0 ≤ b3 ∧ b3 < 18446744073709551616), .many [.v (.agg #[.int .i64 n, .string (fnm n), .int .i64 2, .int .i64 (fp n + fx n), .int .i64 (fp n), .int .i64 (fx n), .int .i64 (2 - fe n - fp n), .int .i64 (fe n + 1 - fp n), .int .i64 (fp n - 2), .bool false]), .v (.bool (decide ((blen (V4 b0 b1 b2 b3) : Int) ≤ fp n + fx n)))]) := rfl
theorem k23_39 : lk G39 39 = some (.body, norm s39) := rfl
theorem k23_40 : lk G39 40 = some (.body, norm s40) := rfl
set_option maxHeartbeats 20000000 in
theorem w23 (n : Int) (b0 b1 b2 b3 : Int) (hp : (1 ≤ n ∧ n ≤ 6) ∧ (0 ≤ b0 ∧ b0 < 18446744073709551616) ∧ (0 ≤ b1 ∧ b1 < 18446744073709551616) ∧ (0 ≤ b2 ∧ b2 < 18446744073709551616) ∧ (0 ≤ b3 ∧ b3 < 18446744073709551616)) : awp ty G39 (code Try.f23) (retP ty Try.f23.results.toList (.many [.v (.agg #[.int .i64 n, .string (fnm n), .int .i64 2, .int .i64 (fp n + fx n), .int .i64 (fp n), .int .i64 (fx n), .int .i64 (2 - fe n - fp n), .int .i64 (fe n + 1 - fp n), .int .i64 (fp n - 2), .bool false]), .v (.bool (decide ((blen (V4 b0 b1 b2 b3) : Int) ≤ fp n + fx n)))])) (entry 0 [.v (.int .i64 n), .v (.agg #[.int .u64 b0, .int .u64 b1, .int .u64 b2, .int .u64 b3])]) [] := by
  unfold code
  simp only [Try.f23, Option.getD_some]
  all_goals repeat' (first
    | ((first
       | (with_reducible refine ops_k ?_; intro X hX)
       | (with_reducible refine opsN_k ?_; intro X hX)
       | (with_reducible show awp _ _ _ _ (keepL _ _) _)
       | (with_reducible refine hX _ _ _ _ ?_; clear hX X)
       | (with_reducible refine opsD_k ?_; intro X hX)
       | with_reducible refine awp_cond_k ?_
       | (with_reducible refine Brk_i ?_ ?_ <;> intro hb <;> (try simp only [hb]) <;> have hq := hb <;> try simp only [decide_eq_true_eq, decide_eq_false_iff_not, gt_iff_lt, ge_iff_le, Int.not_lt, Int.not_le, beq_iff_eq, beq_eq_false_iff_ne, Bool.not_eq_true', Bool.not_eq_false', Bool.and_eq_true, Bool.or_eq_true, Bool.and_eq_false_imp, Bool.or_eq_false_iff, ne_eq, Classical.not_not] at hq)
       | with_reducible refine retP_ret_i ?_
       | with_reducible refine retP_normal_i ?_
       | (with_reducible (show bindG _ _ _ _ _); simp only [hall])) <;> try simp only [Go.AM.S1, Go.AM.S2, Go.AM.S3, Go.AM.S4, Go.AM.S5, Go.AM.S6, Go.AM.S7, Go.AM.S8, Go.AM.S9, Nat.reduceAdd, Nat.reduceMul, Nat.reduceSub, ↓reduceIte, Nat.reduceEqDiff, Nat.reduceLT, Nat.reduceLeDiff, reduceCtorEq, Int.reduceBEq, Int.reduceBNe, Nat.reduceBEq, Int.reduceEq, Int.reduceToNat, Int.reduceLE, Int.reduceLT, Nat.reduceDiv, Int.reduceAdd, Int.reduceSub, Int.reduceMul, Int.reduceNeg, Int.reduceGT, Int.reduceGE, Nat.reduceMod, k23_39, s39_eq, k23_40, s40_eq, ty_3, ty_4, ty_9, ty_26, ty_27, ty_28, ty_29, ty_58])
    | (with_reducible refine hX _ _ ?_; clear hX X)
    | with_reducible refine opsD_nil_i ?_
    | (with_reducible refine keysB_i ?_; kernel_rfl)
    | ((with_reducible show clashK _ _ _ = true); kernel_rfl)
    | with_reducible refine ops_nil_i ?_
    | with_reducible refine opsN_nil_i ?_
    | (with_reducible refine hK _ _ ?_; clear hK K)
    | with_reducible refine thenP_normal_i ?_
    | with_reducible refine zzr2 _ _ ?_
    | with_reducible refine zzr1 _ _ ?_
    | with_reducible refine zzr0 _ _ ?_
    | (with_reducible refine awp_seq_l (a := .region 2 _ _) [4, 5] ?_; intro Kzzr2 zzr2)
    | (with_reducible refine awp_seq_l (a := .region 1 _ _) [3, 4, 6, 7] ?_; intro Kzzr1 zzr1)
    | (with_reducible refine awp_seq_l (a := .region 0 _ _) [0, 3, 4] ?_; intro Kzzr0 zzr0)
    | (with_reducible refine awp_seq_k ?_; intro K hK)
    | (with_reducible refine awp_region_a ?_; intro all hall K hK)
    | (with_reducible refine awp_draw_a (id := 2) ?_ ?_; kernel_rfl; intro all hall K hK)
    | (with_reducible refine awp_draw_n ?_ ?_; kernel_rfl; intro all hall K hK)
    | (with_reducible refine Chk_i ?_ ?_)
    | (with_reducible refine keysC_i ?_; kernel_rfl)
    | (with_reducible first | refine awp_block_i ?_ | refine awp_skip_i ?_ | refine awp_ret_i ?_ | refine awp_exit_i ?_ | refine thenP_ret_i ?_ | refine thenP_exit_i ?_ | refine lpP_ret_i ?_ | refine lpP_exit_i ?_ | refine unrP_succ_i ?_ | refine unrP_ret_i ?_ | refine unrP_exit_i ?_ | refine blockP_normal_i ?_ | refine blockP_ret_i ?_)
    | (with_reducible refine blockP_exit_i ?_; simp only [↓reduceIte, Nat.reduceEqDiff])
    | with_reducible refine lpP_normal_i ?_)
  all_goals first
    | omega
    | exact hp.2
    | skip
theorem sound_23 : Sound Try.prog 23 .body (norm s23) := by
  refine sound_norm (sound_body Try.func23 (show Try.f23.body = some (code Try.f23) from rfl) (by kernel_rfl) tysOk G39_ok (drawOk_ok (by kernel_rfl) tysOk G39_ok) (by kernel_rfl) fun ds p r hs hp => ?_)
  unfold s23 at hs
  split at hs
  · cases hs; exact ⟨Nat.le_of_ble_eq_true (by kernel_rfl), w23 _ _ _ _ _ hp⟩
  · cases hs
noncomputable def G23 : Gam := (23, .body, norm s23) :: G39
theorem G23_ok : GamOk Try.prog G23 := gamOk_cons sound_23 G39_ok
end Go.Proofs.AMT
set_option maxRecDepth 20000
namespace Go.Proofs.AMT
open Go.AM Go.AM.LN
attribute [local congr] bindO_congr bindS_congr bindG_congr awpOps_congr aOne_congr awp_congr aCond_congr awpD_congr dOne_congr keysB_congr nOne_congr thenP_congr blockP_congr Chk_congr Brk_congr
noncomputable def s69 : CSpec := fun ds => match ds with
  | [.v (.agg ⟨[.int .i64 i0, .string i1, .int .i64 i2, .int .i64 i3, .int .i64 i4, .int .i64 i5, .int .i64 i6, .int .i64 i7, .int .i64 i8, .bool i9]⟩), .v (.agg ⟨[.int .i64 cl, .bool sg, .bool si, .int .i64 ex, .int .u64 c0, .int .u64 c1, .int .u64 c2, .int .u64 c3]⟩)] => some (((0 ≤ c0 ∧ c0 < 18446744073709551616) ∧ (0 ≤ c1 ∧ c1 < 18446744073709551616) ∧ (0 ≤ c2 ∧ c2 < 18446744073709551616) ∧ (0 ≤ c3 ∧ c3 < 18446744073709551616)) ∧ ((cl = 1 ∧ si = false ∧ i6 ≤ ex ∧ ex ≤ i7 ∧ (blen (V4 c0 c1 c2 c3) : Int) = i4) ∨ (cl = 1 ∧ si = false ∧ i6 ≤ ex ∧ ex ≤ i7 ∧ (blen (V4 c0 c1 c2 c3) : Int) < i4 ∧ ex = i6) ∨ (cl = 2 ∧ si = false ∧ (blen (V4 c0 c1 c2 c3) : Int) = 0 ∧ ex = 0)), .one (.v (.bool true)))
  | _ => none
theorem s69_eq (i0 : Int) (i1 : ByteArray) (i2 : Int) (i3 : Int) (i4 : Int) (i5 : Int) (i6 : Int) (i7 : Int) (i8 : Int) (i9 : Bool) (cl : Int) (sg : Bool) (si : Bool) (ex : Int) (c0 : Int) (c1 : Int) (c2 : Int) (c3 : Int) : norm s69 [.v (.agg #[.int .i64 i0, .string i1, .int .i64 i2, .int .i64 i3, .int .i64 i4, .int .i64 i5, .int .i64 i6, .int .i64 i7, .int .i64 i8, .bool i9]), .v (.agg #[.int .i64 cl, .bool sg, .bool si, .int .i64 ex, .int .u64 c0, .int .u64 c1, .int .u64 c2, .int .u64 c3])] = some (((0 ≤ c0 ∧ c0 < 18446744073709551616) ∧ (0 ≤ c1 ∧ c1 < 18446744073709551616) ∧ (0 ≤ c2 ∧ c2 < 18446744073709551616) ∧ (0 ≤ c3 ∧ c3 < 18446744073709551616)) ∧ ((cl = 1 ∧ si = false ∧ i6 ≤ ex ∧ ex ≤ i7 ∧ (blen (V4 c0 c1 c2 c3) : Int) = i4) ∨ (cl = 1 ∧ si = false ∧ i6 ≤ ex ∧ ex ≤ i7 ∧ (blen (V4 c0 c1 c2 c3) : Int) < i4 ∧ ex = i6) ∨ (cl = 2 ∧ si = false ∧ (blen (V4 c0 c1 c2 c3) : Int) = 0 ∧ ex = 0)), .one (.v (.bool true))) := rfl
theorem k69_40 : lk G23 40 = some (.body, norm s40) := rfl
set_option maxHeartbeats 20000000 in
theorem w69 (i0 : Int) (i1 : ByteArray) (i2 : Int) (i3 : Int) (i4 : Int) (i5 : Int) (i6 : Int) (i7 : Int) (i8 : Int) (i9 : Bool) (cl : Int) (sg : Bool) (si : Bool) (ex : Int) (c0 : Int) (c1 : Int) (c2 : Int) (c3 : Int) (hp : ((0 ≤ c0 ∧ c0 < 18446744073709551616) ∧ (0 ≤ c1 ∧ c1 < 18446744073709551616) ∧ (0 ≤ c2 ∧ c2 < 18446744073709551616) ∧ (0 ≤ c3 ∧ c3 < 18446744073709551616)) ∧ ((cl = 1 ∧ si = false ∧ i6 ≤ ex ∧ ex ≤ i7 ∧ (blen (V4 c0 c1 c2 c3) : Int) = i4) ∨ (cl = 1 ∧ si = false ∧ i6 ≤ ex ∧ ex ≤ i7 ∧ (blen (V4 c0 c1 c2 c3) : Int) < i4 ∧ ex = i6) ∨ (cl = 2 ∧ si = false ∧ (blen (V4 c0 c1 c2 c3) : Int) = 0 ∧ ex = 0))) : awp ty G23 (code Try.f69) (retP ty Try.f69.results.toList (.one (.v (.bool true)))) (entry 0 [.v (.agg #[.int .i64 i0, .string i1, .int .i64 i2, .int .i64 i3, .int .i64 i4, .int .i64 i5, .int .i64 i6, .int .i64 i7, .int .i64 i8, .bool i9]), .v (.agg #[.int .i64 cl, .bool sg, .bool si, .int .i64 ex, .int .u64 c0, .int .u64 c1, .int .u64 c2, .int .u64 c3])]) [] := by
  unfold code
  simp only [Try.f69, Option.getD_some]
  have hc := hp.1
  rcases hp.2 with ⟨rfl, rfl, h1, h2, h3⟩ | ⟨rfl, rfl, h1, h2, h3, h4⟩ | ⟨rfl, rfl, h1, rfl⟩
  all_goals first
    | (have g1 : decide (ex ≥ i6) = true := by simp only [decide_eq_true_eq]; omega)
    | (have g1 : ((blen (V4 c0 c1 c2 c3) : Int) == 0) = true := by simp only [beq_iff_eq]; omega)
  all_goals first
    | (have g2 : decide (ex ≤ i7) = true := by simp only [decide_eq_true_eq]; omega)
    | (have g2 : decide ((4 : Int) ≥ 5) = false := rfl)
  all_goals first
    | (have g3 : ((blen (V4 c0 c1 c2 c3) : Int) == i4) = true := by simp only [beq_iff_eq]; omega)
    | (have g3 : ((blen (V4 c0 c1 c2 c3) : Int) == i4) = false := by simp only [beq_eq_false_iff_ne, ne_eq]; omega)
    | (have g3 : decide ((4 : Int) ≥ 5) = false := rfl)
  all_goals first
    | (have g4 : decide ((blen (V4 c0 c1 c2 c3) : Int) < i4) = true := by simp only [decide_eq_true_eq]; omega)
    | (have g4 : decide ((4 : Int) ≥ 5) = false := rfl)
  all_goals first
    | (have g5 : (ex == i6) = true := by simp only [beq_iff_eq]; omega)
    | (have g5 : decide ((4 : Int) ≥ 5) = false := rfl)
  all_goals repeat' (first
    | ((first
       | (with_reducible refine ops_k ?_; intro X hX)
       | (with_reducible refine opsN_k ?_; intro X hX)
       | (with_reducible show awp _ _ _ _ (keepL _ _) _)
       | with_reducible refine awp_cond_k ?_
       | (with_reducible refine Brk_i ?_ ?_ <;> intro hb <;> (try simp only [hb]) <;> have hq := hb <;> try simp only [decide_eq_true_eq, decide_eq_false_iff_not, gt_iff_lt, ge_iff_le, Int.not_lt, Int.not_le, beq_iff_eq, beq_eq_false_iff_ne, Bool.not_eq_true', Bool.not_eq_false', Bool.and_eq_true, Bool.or_eq_true, Bool.and_eq_false_imp, Bool.or_eq_false_iff, ne_eq, Classical.not_not] at hq)
       | with_reducible refine retP_ret_i ?_
       | with_reducible refine retP_normal_i ?_
       | (with_reducible (show bindG _ _ _ _ _); simp only [hall])) <;> try simp only [Go.AM.S1, Go.AM.S2, Go.AM.S3, Go.AM.S4, Go.AM.S5, Go.AM.S6, Go.AM.S7, Go.AM.S8, Go.AM.S9, Nat.reduceAdd, Nat.reduceMul, Nat.reduceSub, ↓reduceIte, Nat.reduceEqDiff, Nat.reduceLT, Nat.reduceLeDiff, reduceCtorEq, Int.reduceBEq, Int.reduceBNe, Nat.reduceBEq, Int.reduceEq, Int.reduceToNat, Int.reduceLE, Int.reduceLT, Nat.reduceDiv, Int.reduceAdd, Int.reduceSub, Int.reduceMul, Int.reduceNeg, Int.reduceGT, Int.reduceGE, Nat.reduceMod, k69_40, s40_eq, ty_3, ty_4, ty_9, ty_26, ty_27, ty_28, ty_53, ty_58, g1, g2, g3, g4, g5])
    | (with_reducible refine hX _ _ ?_; clear hX X)
    | with_reducible refine ops_nil_i ?_
    | with_reducible refine opsN_nil_i ?_
    | (with_reducible refine hK _ _ ?_; clear hK K)
    | with_reducible refine thenP_normal_i ?_
    | with_reducible refine zzr9 _ _ ?_
    | with_reducible refine zzsr2 _ _ ?_
    | with_reducible refine zzr4 _ _ ?_
    | with_reducible refine zzr6 _ _ ?_
    | with_reducible refine zzr8 _ _ ?_
    | with_reducible refine zzr7 _ _ ?_
    | with_reducible refine zzr5 _ _ ?_
    | with_reducible refine zzr3 _ _ ?_
    | with_reducible refine zzr2 _ _ ?_
    | with_reducible refine zzr1 _ _ ?_
    | with_reducible refine zzr0 _ _ ?_
    | (with_reducible refine awp_seq_l (a := .region 9 _ _) [4] ?_; intro Kzzr9 zzr9)
    | (with_reducible refine awp_seq_l (a := .seq (.region 2 _ _) _) [] ?_; intro Kzzsr2 zzsr2)
    | (with_reducible refine awp_seq_l (a := .region 4 _ _) [4] ?_; intro Kzzr4 zzr4)
    | (with_reducible refine awp_seq_l (a := .region 6 _ _) [4] ?_; intro Kzzr6 zzr6)
    | (with_reducible refine awp_seq_l (a := .region 8 _ _) [4] ?_; intro Kzzr8 zzr8)
    | (with_reducible refine awp_seq_l (a := .region 7 _ _) [2, 3, 5, 63] ?_; intro Kzzr7 zzr7)
    | (with_reducible refine awp_seq_l (a := .region 5 _ _) [2, 3, 5, 10, 49] ?_; intro Kzzr5 zzr5)
    | (with_reducible refine awp_seq_l (a := .region 3 _ _) [2, 3, 5, 10, 11] ?_; intro Kzzr3 zzr3)
    | (with_reducible refine awp_seq_l (a := .region 2 _ _) [2, 3, 5, 10] ?_; intro Kzzr2 zzr2)
    | (with_reducible refine awp_seq_l (a := .region 1 _ _) [2, 3, 5] ?_; intro Kzzr1 zzr1)
    | (with_reducible refine awp_seq_l (a := .region 0 _ _) [2, 3] ?_; intro Kzzr0 zzr0)
    | (with_reducible refine awp_seq_k ?_; intro K hK)
    | (with_reducible refine awp_region_a ?_; intro all hall K hK)
    | (with_reducible refine awp_draw_n ?_ ?_; kernel_rfl; intro all hall K hK)
    | (with_reducible refine Chk_i ?_ ?_)
    | (with_reducible refine keysC_i ?_; kernel_rfl)
    | (with_reducible first | refine awp_block_i ?_ | refine awp_skip_i ?_ | refine awp_ret_i ?_ | refine awp_exit_i ?_ | refine thenP_ret_i ?_ | refine thenP_exit_i ?_ | refine lpP_ret_i ?_ | refine lpP_exit_i ?_ | refine unrP_succ_i ?_ | refine unrP_ret_i ?_ | refine unrP_exit_i ?_ | refine blockP_normal_i ?_ | refine blockP_ret_i ?_)
    | (with_reducible refine blockP_exit_i ?_; simp only [↓reduceIte, Nat.reduceEqDiff])
    | with_reducible refine lpP_normal_i ?_)
  all_goals first
    | omega
    | exact hc
    | skip
theorem sound_69 : Sound Try.prog 69 .body (norm s69) := by
  refine sound_norm (sound_body Try.func69 (show Try.f69.body = some (code Try.f69) from rfl) (by kernel_rfl) tysOk G23_ok (drawOk_ok (by kernel_rfl) tysOk G23_ok) (by kernel_rfl) fun ds p r hs hp => ?_)
  unfold s69 at hs
  split at hs
  · cases hs; exact ⟨Nat.le_of_ble_eq_true (by kernel_rfl), w69 _ _ _ _ _ _ _ _ _ _ _ _ _ _ _ _ _ _ hp⟩
  · cases hs
noncomputable def G69 : Gam := (69, .body, norm s69) :: G23
theorem G69_ok : GamOk Try.prog G69 := gamOk_cons sound_69 G23_ok
end Go.Proofs.AMT
set_option maxRecDepth 20000
namespace Go.Proofs.AMT
open Go.AM Go.AM.LN
attribute [local congr] bindO_congr bindS_congr bindG_congr awpOps_congr aOne_congr awp_congr aCond_congr awpD_congr dOne_congr keysB_congr nOne_congr thenP_congr blockP_congr Chk_congr Brk_congr
def eS (cl n : Int) (C : Nat) (ex : Int) : Int := if cl = 1 then (if (blen C : Int) = fp n then ex - (2 - fe n - fp n) + 1 else 0) else 2 ^ (fx n).toNat - 1
def packB (n cl : Int) (C : Nat) (ex : Int) : Nat := C % 2 ^ (fp n - 1).toNat ||| ((eS cl n C ex).toNat * 2 ^ (fp n - 1).toNat % 2 ^ 256)
def packS (n cl : Int) (sg : Bool) (C : Nat) (ex : Int) : Nat := if sg then packB n cl C ex ||| (1 * 2 ^ (fp n + fx n - 1).toNat % 2 ^ 256) else packB n cl C ex
theorem fbound {n : Int} (h : 1 ≤ n ∧ n ≤ 6) : 8 ≤ fp n ∧ fp n ≤ 241 ∧ 5 ≤ fx n ∧ fx n ≤ 15 ∧ 15 ≤ fe n ∧ fe n ≤ 16383 := by
  have hn : n = 1 ∨ n = 2 ∨ n = 3 ∨ n = 4 ∨ n = 5 ∨ n = 6 := by omega
  rcases hn with rfl | rfl | rfl | rfl | rfl | rfl <;> decide
theorem V4_x (x : Int) : V4 x 0 0 0 = x.toNat := by unfold V4; simp [val]
theorem or_lt {x y : Nat} (hx : x < 2 ^ 256) (hy : y < 2 ^ 256) : x ||| y < 2 ^ 256 := Nat.or_lt_two_pow hx hy
theorem mod_lt256 (x : Nat) : x % 2 ^ 256 < 2 ^ 256 := Nat.mod_lt _ (Nat.two_pow_pos _)
theorem pow_fx {n : Int} (h : 1 ≤ n ∧ n ≤ 6) : (2 : Int) ^ (fx n).toNat ≤ 32768 ∧ 1 ≤ (2 : Int) ^ (fx n).toNat := by
  have hn : n = 1 ∨ n = 2 ∨ n = 3 ∨ n = 4 ∨ n = 5 ∨ n = 6 := by omega
  rcases hn with rfl | rfl | rfl | rfl | rfl | rfl <;> decide
end Go.Proofs.AMT
set_option maxRecDepth 20000
namespace Go.Proofs.AMT
open Go.AM Go.AM.LN
attribute [local congr] bindO_congr bindS_congr bindG_congr awpOps_congr aOne_congr awp_congr aCond_congr awpD_congr dOne_congr keysB_congr nOne_congr thenP_congr blockP_congr Chk_congr Brk_congr
noncomputable def s42 : CSpec := fun ds => match ds with
  | [.v (.int .i64 n), .v (.agg ⟨[.int .i64 cl, .bool sg, .bool si, .int .i64 ex, .int .u64 c0, .int .u64 c1, .int .u64 c2, .int .u64 c3]⟩)] => some ((1 ≤ n ∧ n ≤ 6) ∧ ((0 ≤ c0 ∧ c0 < 18446744073709551616) ∧ (0 ≤ c1 ∧ c1 < 18446744073709551616) ∧ (0 ≤ c2 ∧ c2 < 18446744073709551616) ∧ (0 ≤ c3 ∧ c3 < 18446744073709551616)) ∧ ((cl = 1 ∧ si = false ∧ 2 - fe n - fp n ≤ ex ∧ ex ≤ fe n + 1 - fp n ∧ (blen (V4 c0 c1 c2 c3) : Int) = fp n) ∨ (cl = 1 ∧ si = false ∧ 2 - fe n - fp n ≤ ex ∧ ex ≤ fe n + 1 - fp n ∧ (blen (V4 c0 c1 c2 c3) : Int) < fp n ∧ ex = 2 - fe n - fp n) ∨ (cl = 2 ∧ si = false ∧ (blen (V4 c0 c1 c2 c3) : Int) = 0 ∧ ex = 0)), .many [.v (.agg #[.int .u64 (w4 (packS n cl sg (V4 c0 c1 c2 c3) ex) 0), .int .u64 (w4 (packS n cl sg (V4 c0 c1 c2 c3) ex) 1), .int .u64 (w4 (packS n cl sg (V4 c0 c1 c2 c3) ex) 2), .int .u64 (w4 (packS n cl sg (V4 c0 c1 c2 c3) ex) 3)]), .v (.int .i64 0)])
  | _ => none
theorem s42_eq (n : Int) (cl : Int) (sg : Bool) (si : Bool) (ex : Int) (c0 : Int) (c1 : Int) (c2 : Int) (c3 : Int) : norm s42 [.v (.int .i64 n), .v (.agg #[.int .i64 cl, .bool sg, .bool si, .int .i64 ex, .int .u64 c0, .int .u64 c1, .int .u64 c2, .int .u64 c3])] = some ((1 ≤ n ∧ n ≤ 6) ∧ ((0 ≤ c0 ∧ c0 < 18446744073709551616) ∧ (0 ≤ c1 ∧ c1 < 18446744073709551616) ∧ (0 ≤ c2 ∧ c2 < 18446744073709551616) ∧ (0 ≤ c3 ∧ c3 < 18446744073709551616)) ∧ ((cl = 1 ∧ si = false ∧ 2 - fe n - fp n ≤ ex ∧ ex ≤ fe n + 1 - fp n ∧ (blen (V4 c0 c1 c2 c3) : Int) = fp n) ∨ (cl = 1 ∧ si = false ∧ 2 - fe n - fp n ≤ ex ∧ ex ≤ fe n + 1 - fp n ∧ (blen (V4 c0 c1 c2 c3) : Int) < fp n ∧ ex = 2 - fe n - fp n) ∨ (cl = 2 ∧ si = false ∧ (blen (V4 c0 c1 c2 c3) : Int) = 0 ∧ ex = 0)), .many [.v (.agg #[.int .u64 (w4 (packS n cl sg (V4 c0 c1 c2 c3) ex) 0), .int .u64 (w4 (packS n cl sg (V4 c0 c1 c2 c3) ex) 1), .int .u64 (w4 (packS n cl sg (V4 c0 c1 c2 c3) ex) 2), .int .u64 (w4 (packS n cl sg (V4 c0 c1 c2 c3) ex) 3)]), .v (.int .i64 0)]) := rfl
theorem k42_23 : lk G69 23 = some (.body, norm s23) := rfl
theorem k42_35 : lk G69 35 = some (.body, norm s35) := rfl
theorem k42_37 : lk G69 37 = some (.body, norm s37) := rfl
theorem k42_38 : lk G69 38 = some (.body, norm s38) := rfl
theorem k42_40 : lk G69 40 = some (.body, norm s40) := rfl
theorem k42_69 : lk G69 69 = some (.body, norm s69) := rfl
set_option maxHeartbeats 20000000 in
theorem w42 (n : Int) (cl : Int) (sg : Bool) (si : Bool) (ex : Int) (c0 : Int) (c1 : Int) (c2 : Int) (c3 : Int) (hp : (1 ≤ n ∧ n ≤ 6) ∧ ((0 ≤ c0 ∧ c0 < 18446744073709551616) ∧ (0 ≤ c1 ∧ c1 < 18446744073709551616) ∧ (0 ≤ c2 ∧ c2 < 18446744073709551616) ∧ (0 ≤ c3 ∧ c3 < 18446744073709551616)) ∧ ((cl = 1 ∧ si = false ∧ 2 - fe n - fp n ≤ ex ∧ ex ≤ fe n + 1 - fp n ∧ (blen (V4 c0 c1 c2 c3) : Int) = fp n) ∨ (cl = 1 ∧ si = false ∧ 2 - fe n - fp n ≤ ex ∧ ex ≤ fe n + 1 - fp n ∧ (blen (V4 c0 c1 c2 c3) : Int) < fp n ∧ ex = 2 - fe n - fp n) ∨ (cl = 2 ∧ si = false ∧ (blen (V4 c0 c1 c2 c3) : Int) = 0 ∧ ex = 0))) : awp ty G69 (code Try.f42) (retP ty Try.f42.results.toList (.many [.v (.agg #[.int .u64 (w4 (packS n cl sg (V4 c0 c1 c2 c3) ex) 0), .int .u64 (w4 (packS n cl sg (V4 c0 c1 c2 c3) ex) 1), .int .u64 (w4 (packS n cl sg (V4 c0 c1 c2 c3) ex) 2), .int .u64 (w4 (packS n cl sg (V4 c0 c1 c2 c3) ex) 3)]), .v (.int .i64 0)])) (entry 0 [.v (.int .i64 n), .v (.agg #[.int .i64 cl, .bool sg, .bool si, .int .i64 ex, .int .u64 c0, .int .u64 c1, .int .u64 c2, .int .u64 c3])]) [] := by
  unfold code
  simp only [Try.f42, Option.getD_some]
  obtain ⟨hn, hc, hd⟩ := hp
  obtain ⟨b1, b2, b3, b4, b5, b6⟩ := fbound hn
  obtain ⟨p1, p2⟩ := pow_fx hn
  have g0 : decide ((blen 0 : Int) ≤ fp n + fx n) = true := by
    have : blen 0 = 0 := rfl
    rw [this]; simp only [decide_eq_true_eq]; omega
  have hB0 : ∀ X : Nat, X < 2 ^ 256 → V4 (w4 (X ||| 0 % 2 ^ 256) 0) (w4 (X ||| 0 % 2 ^ 256) 1) (w4 (X ||| 0 % 2 ^ 256) 2) (w4 (X ||| 0 % 2 ^ 256) 3) = X ||| 0 % 2 ^ 256 := fun X hX => V4_w4 (or_lt hX (mod_lt256 _))
  have hmin : min (fx n).toNat 64 = (fx n).toNat := by omega
  have hF : V4 (w4 ((V4 c0 c1 c2 c3) % 2 ^ (fp n - 1).toNat) 0) (w4 ((V4 c0 c1 c2 c3) % 2 ^ (fp n - 1).toNat) 1) (w4 ((V4 c0 c1 c2 c3) % 2 ^ (fp n - 1).toNat) 2) (w4 ((V4 c0 c1 c2 c3) % 2 ^ (fp n - 1).toNat) 3) = (V4 c0 c1 c2 c3) % 2 ^ (fp n - 1).toNat :=
    V4_w4 (Nat.lt_of_lt_of_le (Nat.mod_lt _ (Nat.two_pow_pos _)) (Nat.pow_le_pow_right (by omega) (by omega)))
  have hFl : (V4 c0 c1 c2 c3) % 2 ^ (fp n - 1).toNat < 2 ^ 256 := Nat.lt_of_lt_of_le (Nat.mod_lt _ (Nat.two_pow_pos _)) (Nat.pow_le_pow_right (by omega) (by omega))
  replace hB0 := hB0 _ hFl
  have hB : ∀ e : Nat, V4 (w4 ((V4 c0 c1 c2 c3) % 2 ^ (fp n - 1).toNat ||| e * 2 ^ (fp n - 1).toNat % 2 ^ 256) 0) (w4 ((V4 c0 c1 c2 c3) % 2 ^ (fp n - 1).toNat ||| e * 2 ^ (fp n - 1).toNat % 2 ^ 256) 1) (w4 ((V4 c0 c1 c2 c3) % 2 ^ (fp n - 1).toNat ||| e * 2 ^ (fp n - 1).toNat % 2 ^ 256) 2) (w4 ((V4 c0 c1 c2 c3) % 2 ^ (fp n - 1).toNat ||| e * 2 ^ (fp n - 1).toNat % 2 ^ 256) 3) = (V4 c0 c1 c2 c3) % 2 ^ (fp n - 1).toNat ||| e * 2 ^ (fp n - 1).toNat % 2 ^ 256 := fun e => V4_w4 (or_lt hFl (mod_lt256 _))
  rcases hd with ⟨rfl, rfl, h1, h2, h3⟩ | ⟨rfl, rfl, h1, h2, h3, h4⟩ | ⟨rfl, rfl, h1, rfl⟩
  all_goals first
    | (have g3 : ((blen (V4 c0 c1 c2 c3) : Int) == fp n) = true := by simp only [beq_iff_eq]; omega)
    | (have g3 : ((blen (V4 c0 c1 c2 c3) : Int) == fp n) = false := by simp only [beq_eq_false_iff_ne, ne_eq]; omega)
  all_goals repeat' (first
    | ((first
       | (with_reducible refine ops_k ?_; intro X hX)
       | (with_reducible refine opsN_k ?_; intro X hX)
       | (with_reducible show awp _ _ _ _ (keepL _ _) _)
       | (with_reducible refine hX _ _ _ _ ?_; clear hX X)
       | (with_reducible refine opsD_k ?_; intro X hX)
       | with_reducible refine awp_cond_k ?_
       | (with_reducible refine Brk_i ?_ ?_ <;> intro hb <;> (try simp only [hb]) <;> have hq := hb <;> try simp only [decide_eq_true_eq, decide_eq_false_iff_not, gt_iff_lt, ge_iff_le, Int.not_lt, Int.not_le, beq_iff_eq, beq_eq_false_iff_ne, Bool.not_eq_true', Bool.not_eq_false', Bool.and_eq_true, Bool.or_eq_true, Bool.and_eq_false_imp, Bool.or_eq_false_iff, ne_eq, Classical.not_not] at hq)
       | with_reducible refine retP_ret_i ?_
       | with_reducible refine retP_normal_i ?_
       | (with_reducible (show bindG _ _ _ _ _); simp only [hall])) <;> try simp only [Go.AM.S1, Go.AM.S2, Go.AM.S3, Go.AM.S4, Go.AM.S5, Go.AM.S6, Go.AM.S7, Go.AM.S8, Go.AM.S9, Nat.reduceAdd, Nat.reduceMul, Nat.reduceSub, ↓reduceIte, Nat.reduceEqDiff, Nat.reduceLT, Nat.reduceLeDiff, reduceCtorEq, Int.reduceBEq, Int.reduceBNe, Nat.reduceBEq, Int.reduceEq, Int.reduceToNat, Int.reduceLE, Int.reduceLT, Nat.reduceDiv, Int.reduceAdd, Int.reduceSub, Int.reduceMul, Int.reduceNeg, Int.reduceGT, Int.reduceGE, Nat.reduceMod, k42_23, s23_eq, k42_35, s35_eq, k42_37, s37_eq, k42_38, s38_eq, k42_40, s40_eq, k42_69, s69_eq, ty_3, ty_4, ty_9, ty_26, ty_27, ty_28, ty_53, ty_58, g0, g3, hmin, IntKind.bits, Nat.pow_zero, Nat.div_one, hF, hB, hB0, V4_x, Int.toNat_one])
    | (with_reducible refine hX _ _ ?_; clear hX X)
    | with_reducible refine opsD_nil_i ?_
    | (with_reducible refine keysB_i ?_; kernel_rfl)
    | ((with_reducible show clashK _ _ _ = true); kernel_rfl)
    | with_reducible refine ops_nil_i ?_
    | with_reducible refine opsN_nil_i ?_
    | (with_reducible refine hK _ _ ?_; clear hK K)
    | with_reducible refine thenP_normal_i ?_
    | with_reducible refine zzr18 _ _ ?_
    | with_reducible refine zzsr16 _ _ ?_
    | with_reducible refine zzr16 _ _ ?_
    | with_reducible refine zzr15 _ _ ?_
    | with_reducible refine zzb0 _ _ ?_
    | with_reducible refine zzr11 _ _ ?_
    | with_reducible refine zzr10 _ _ ?_
    | with_reducible refine zzr13 _ _ ?_
    | with_reducible refine zzr9 _ _ ?_
    | with_reducible refine zzr8 _ _ ?_
    | with_reducible refine zzr7 _ _ ?_
    | with_reducible refine zzr6 _ _ ?_
    | with_reducible refine zzsr4 _ _ ?_
    | with_reducible refine zzr5 _ _ ?_
    | with_reducible refine zzr4 _ _ ?_
    | with_reducible refine zzsr2 _ _ ?_
    | with_reducible refine zzr3 _ _ ?_
    | with_reducible refine zzr2 _ _ ?_
    | with_reducible refine zzr1 _ _ ?_
    | with_reducible refine zzr0 _ _ ?_
    | (with_reducible refine awp_seq_l (a := .region 18 _ _) [4, 5] ?_; intro Kzzr18 zzr18)
    | (with_reducible refine awp_seq_l (a := .seq (.region 16 _ _) _) [4, 10] ?_; intro Kzzsr16 zzsr16)
    | (with_reducible refine awp_seq_l (a := .region 16 _ _) [4, 6, 10, 72] ?_; intro Kzzr16 zzr16)
    | (with_reducible refine awp_seq_l (a := .region 15 _ _) [3, 4, 6, 10] ?_; intro Kzzr15 zzr15)
    | (with_reducible refine awp_seq_l (a := .block 0 _) [3, 4, 6, 8, 9, 10] ?_; intro Kzzb0 zzb0)
    | (with_reducible refine awp_seq_l (a := .region 11 _ _) [3, 4, 6, 8, 9, 10, 45] ?_; intro Kzzr11 zzr11)
    | (with_reducible refine awp_seq_l (a := .region 10 _ _) [3, 4, 6, 8, 9, 10] ?_; intro Kzzr10 zzr10)
    | (with_reducible refine awp_seq_l (a := .region 13 _ _) [3, 4, 6, 8, 9, 10, 52] ?_; intro Kzzr13 zzr13)
    | (with_reducible refine awp_seq_l (a := .region 9 _ _) [3, 4, 6, 8, 9, 10, 36] ?_; intro Kzzr9 zzr9)
    | (with_reducible refine awp_seq_l (a := .region 8 _ _) [3, 4, 6, 8, 9, 10] ?_; intro Kzzr8 zzr8)
    | (with_reducible refine awp_seq_l (a := .region 7 _ _) [3, 4, 6, 8, 9] ?_; intro Kzzr7 zzr7)
    | (with_reducible refine awp_seq_l (a := .region 6 _ _) [3, 4, 6, 8] ?_; intro Kzzr6 zzr6)
    | (with_reducible refine awp_seq_l (a := .seq (.region 4 _ _) _) [3, 4, 6] ?_; intro Kzzsr4 zzsr4)
    | (with_reducible refine awp_seq_l (a := .region 5 _ _) [4, 5] ?_; intro Kzzr5 zzr5)
    | (with_reducible refine awp_seq_l (a := .region 4 _ _) [3, 4, 6, 23] ?_; intro Kzzr4 zzr4)
    | (with_reducible refine awp_seq_l (a := .seq (.region 2 _ _) _) [3, 4, 6] ?_; intro Kzzsr2 zzsr2)
    | (with_reducible refine awp_seq_l (a := .region 3 _ _) [4, 5] ?_; intro Kzzr3 zzr3)
    | (with_reducible refine awp_seq_l (a := .region 2 _ _) [3, 4, 6, 18] ?_; intro Kzzr2 zzr2)
    | (with_reducible refine awp_seq_l (a := .region 1 _ _) [3, 4, 6, 7] ?_; intro Kzzr1 zzr1)
    | (with_reducible refine awp_seq_l (a := .region 0 _ _) [0, 3, 4] ?_; intro Kzzr0 zzr0)
    | (with_reducible refine awp_seq_k ?_; intro K hK)
    | (with_reducible refine awp_region_a ?_; intro all hall K hK)
    | (with_reducible refine awp_draw_a (id := 14) ?_ ?_; kernel_rfl; intro all hall K hK)
    | (with_reducible refine awp_draw_a (id := 15) ?_ ?_; kernel_rfl; intro all hall K hK)
    | (with_reducible refine awp_draw_a (id := 17) ?_ ?_; kernel_rfl; intro all hall K hK)
    | (with_reducible refine awp_draw_n ?_ ?_; kernel_rfl; intro all hall K hK)
    | (with_reducible refine Chk_i ?_ ?_)
    | (with_reducible refine keysC_i ?_; kernel_rfl)
    | (with_reducible first | refine awp_block_i ?_ | refine awp_skip_i ?_ | refine awp_ret_i ?_ | refine awp_exit_i ?_ | refine thenP_ret_i ?_ | refine thenP_exit_i ?_ | refine lpP_ret_i ?_ | refine lpP_exit_i ?_ | refine unrP_succ_i ?_ | refine unrP_ret_i ?_ | refine unrP_exit_i ?_ | refine blockP_normal_i ?_ | refine blockP_ret_i ?_)
    | (with_reducible refine blockP_exit_i ?_; simp only [↓reduceIte, Nat.reduceEqDiff])
    | with_reducible refine lpP_normal_i ?_)
  all_goals (try simp only [inR])
  all_goals first
    | omega
    | exact ⟨⟨w4_lim _ _, w4_lim _ _, w4_lim _ _, w4_lim _ _⟩, ⟨by omega, by omega⟩, by omega, by omega⟩
    | exact ⟨⟨w4_lim _ _, w4_lim _ _, w4_lim _ _, w4_lim _ _⟩, by omega, by omega⟩
    | (subst hq; simp [packS, packB, eS, h3]; done)
    | (subst hq; simp [packS, packB, eS, (show ¬ (blen (V4 c0 c1 c2 c3) : Int) = fp n by omega)]; done)
    | skip
theorem sound_42 : Sound Try.prog 42 .body (norm s42) := by
  refine sound_norm (sound_body Try.func42 (show Try.f42.body = some (code Try.f42) from rfl) (by kernel_rfl) tysOk G69_ok (drawOk_ok (by kernel_rfl) tysOk G69_ok) (by kernel_rfl) fun ds p r hs hp => ?_)
  unfold s42 at hs
  split at hs
  · cases hs; exact ⟨Nat.le_of_ble_eq_true (by kernel_rfl), w42 _ _ _ _ _ _ _ _ _ hp⟩
  · cases hs
noncomputable def G42 : Gam := (42, .body, norm s42) :: G69
theorem G42_ok : GamOk Try.prog G42 := gamOk_cons sound_42 G69_ok
end Go.Proofs.AMT
namespace Go.AM.LN
theorem V4_limbs {X : Nat} (h : X < 2 ^ 256) : V4 ((limbs X).getD 0 0) ((limbs X).getD 1 0) ((limbs X).getD 2 0) ((limbs X).getD 3 0) = X := by
  have e : ∀ i, (limbs X).getD i 0 = w4 X i := fun i => by
    have h1 := val_getD (limbs X) i (lim_limbs X)
    rw [val_limbs] at h1
    have h2 := lim_get (lim_limbs X) (i := i)
    unfold w4
    omega
  rw [e, e, e, e]
  exact V4_w4 h
end Go.AM.LN
set_option maxRecDepth 20000
namespace Go.Proofs.AMT
open Go.AM Go.AM.LN
attribute [local congr] bindO_congr bindS_congr bindG_congr awpOps_congr aOne_congr awp_congr aCond_congr awpD_congr dOne_congr keysB_congr nOne_congr thenP_congr blockP_congr Chk_congr Brk_congr
theorem divS_one (d : Int) (s : Bool) (X : Nat) : divS d s X 1 = (X, true) := by
  rw [divS_ex (Nat.mod_one X), Nat.div_one]
noncomputable def s27 : CSpec := fun ds => match ds with
  | [.v (.int .i64 n), .v (.int .i64 d), .v (.bool s), .sl .u64 a, .sl .u64 b, .v (.int .i64 e)] => some (n = 4 ∧ (0 ≤ d ∧ d ≤ 4) ∧ (lim a ∧ a.length ≤ 4) ∧ (0 < val a ∧ val a < 2 ^ 53) ∧ b = [1] ∧ -1000 ≤ e ∧ e ≤ 900, .many [.v (.agg #[.int .u64 (w4 (packS 4 1 s (val a * 2 ^ (53 - blen (val a))) (e + blen (val a) - 53)) 0), .int .u64 (w4 (packS 4 1 s (val a * 2 ^ (53 - blen (val a))) (e + blen (val a) - 53)) 1), .int .u64 (w4 (packS 4 1 s (val a * 2 ^ (53 - blen (val a))) (e + blen (val a) - 53)) 2), .int .u64 (w4 (packS 4 1 s (val a * 2 ^ (53 - blen (val a))) (e + blen (val a) - 53)) 3)]), .v (.int .i64 0), .v (.int .i64 0)])
  | _ => none
theorem s27_eq (n : Int) (d : Int) (s : Bool) (a : List Int) (b : List Int) (e : Int) : norm s27 [.v (.int .i64 n), .v (.int .i64 d), .v (.bool s), .sl .u64 a, .sl .u64 b, .v (.int .i64 e)] = some (n = 4 ∧ (0 ≤ d ∧ d ≤ 4) ∧ (lim a ∧ a.length ≤ 4) ∧ (0 < val a ∧ val a < 2 ^ 53) ∧ b = [1] ∧ -1000 ≤ e ∧ e ≤ 900, .many [.v (.agg #[.int .u64 (w4 (packS 4 1 s (val a * 2 ^ (53 - blen (val a))) (e + blen (val a) - 53)) 0), .int .u64 (w4 (packS 4 1 s (val a * 2 ^ (53 - blen (val a))) (e + blen (val a) - 53)) 1), .int .u64 (w4 (packS 4 1 s (val a * 2 ^ (53 - blen (val a))) (e + blen (val a) - 53)) 2), .int .u64 (w4 (packS 4 1 s (val a * 2 ^ (53 - blen (val a))) (e + blen (val a) - 53)) 3)]), .v (.int .i64 0), .v (.int .i64 0)]) := rfl
theorem s27_nil1 (n : Int) (d : Int) (s : Bool)  (b : List Int) (e : Int) : norm s27 [.v (.int .i64 n), .v (.int .i64 d), .v (.bool s), .v (.slice none 0 0), .sl .u64 b, .v (.int .i64 e)] = some (n = 4 ∧ (0 ≤ d ∧ d ≤ 4) ∧ (lim ([] : List Int) ∧ ([] : List Int).length ≤ 4) ∧ (0 < val ([] : List Int) ∧ val ([] : List Int) < 2 ^ 53) ∧ b = [1] ∧ -1000 ≤ e ∧ e ≤ 900, .many [.v (.agg #[.int .u64 (w4 (packS 4 1 s (val ([] : List Int) * 2 ^ (53 - blen (val ([] : List Int)))) (e + blen (val ([] : List Int)) - 53)) 0), .int .u64 (w4 (packS 4 1 s (val ([] : List Int) * 2 ^ (53 - blen (val ([] : List Int)))) (e + blen (val ([] : List Int)) - 53)) 1), .int .u64 (w4 (packS 4 1 s (val ([] : List Int) * 2 ^ (53 - blen (val ([] : List Int)))) (e + blen (val ([] : List Int)) - 53)) 2), .int .u64 (w4 (packS 4 1 s (val ([] : List Int) * 2 ^ (53 - blen (val ([] : List Int)))) (e + blen (val ([] : List Int)) - 53)) 3)]), .v (.int .i64 0), .v (.int .i64 0)]) := rfl
theorem s27_nil2 (n : Int) (d : Int) (s : Bool) (a : List Int)  (e : Int) : norm s27 [.v (.int .i64 n), .v (.int .i64 d), .v (.bool s), .sl .u64 a, .v (.slice none 0 0), .v (.int .i64 e)] = some (n = 4 ∧ (0 ≤ d ∧ d ≤ 4) ∧ (lim a ∧ a.length ≤ 4) ∧ (0 < val a ∧ val a < 2 ^ 53) ∧ ([] : List Int) = [1] ∧ -1000 ≤ e ∧ e ≤ 900, .many [.v (.agg #[.int .u64 (w4 (packS 4 1 s (val a * 2 ^ (53 - blen (val a))) (e + blen (val a) - 53)) 0), .int .u64 (w4 (packS 4 1 s (val a * 2 ^ (53 - blen (val a))) (e + blen (val a) - 53)) 1), .int .u64 (w4 (packS 4 1 s (val a * 2 ^ (53 - blen (val a))) (e + blen (val a) - 53)) 2), .int .u64 (w4 (packS 4 1 s (val a * 2 ^ (53 - blen (val a))) (e + blen (val a) - 53)) 3)]), .v (.int .i64 0), .v (.int .i64 0)]) := rfl
theorem s27_nil3 (n : Int) (d : Int) (s : Bool)   (e : Int) : norm s27 [.v (.int .i64 n), .v (.int .i64 d), .v (.bool s), .v (.slice none 0 0), .v (.slice none 0 0), .v (.int .i64 e)] = some (n = 4 ∧ (0 ≤ d ∧ d ≤ 4) ∧ (lim ([] : List Int) ∧ ([] : List Int).length ≤ 4) ∧ (0 < val ([] : List Int) ∧ val ([] : List Int) < 2 ^ 53) ∧ ([] : List Int) = [1] ∧ -1000 ≤ e ∧ e ≤ 900, .many [.v (.agg #[.int .u64 (w4 (packS 4 1 s (val ([] : List Int) * 2 ^ (53 - blen (val ([] : List Int)))) (e + blen (val ([] : List Int)) - 53)) 0), .int .u64 (w4 (packS 4 1 s (val ([] : List Int) * 2 ^ (53 - blen (val ([] : List Int)))) (e + blen (val ([] : List Int)) - 53)) 1), .int .u64 (w4 (packS 4 1 s (val ([] : List Int) * 2 ^ (53 - blen (val ([] : List Int)))) (e + blen (val ([] : List Int)) - 53)) 2), .int .u64 (w4 (packS 4 1 s (val ([] : List Int) * 2 ^ (53 - blen (val ([] : List Int)))) (e + blen (val ([] : List Int)) - 53)) 3)]), .v (.int .i64 0), .v (.int .i64 0)]) := rfl
theorem k27_23 : lk G42 23 = some (.body, norm s23) := rfl
theorem k27_24 : lk G42 24 = some (.body, norm s24) := rfl
theorem k27_28 : lk G42 28 = some (.body, norm s28) := rfl
theorem k27_42 : lk G42 42 = some (.body, norm s42) := rfl
theorem k27_43 : lk G42 43 = some (.body, norm s43) := rfl
theorem k27_44 : lk G42 44 = some (.body, norm s44) := rfl
theorem k27_45 : lk G42 45 = some (.body, norm s45) := rfl
theorem k27_46 : lk G42 46 = some (.body, norm s46) := rfl
theorem k27_48 : lk G42 48 = some (.body, norm s48) := rfl
theorem k27_49 : lk G42 49 = some (.body, norm s49) := rfl
theorem k27_50 : lk G42 50 = some (.body, norm s50) := rfl
set_option maxHeartbeats 20000000 in
theorem w27 (n : Int) (d : Int) (s : Bool) (a : List Int) (b : List Int) (e : Int) (hp : n = 4 ∧ (0 ≤ d ∧ d ≤ 4) ∧ (lim a ∧ a.length ≤ 4) ∧ (0 < val a ∧ val a < 2 ^ 53) ∧ b = [1] ∧ -1000 ≤ e ∧ e ≤ 900) : awp ty G42 (code Try.f27) (retP ty Try.f27.results.toList (.many [.v (.agg #[.int .u64 (w4 (packS 4 1 s (val a * 2 ^ (53 - blen (val a))) (e + blen (val a) - 53)) 0), .int .u64 (w4 (packS 4 1 s (val a * 2 ^ (53 - blen (val a))) (e + blen (val a) - 53)) 1), .int .u64 (w4 (packS 4 1 s (val a * 2 ^ (53 - blen (val a))) (e + blen (val a) - 53)) 2), .int .u64 (w4 (packS 4 1 s (val a * 2 ^ (53 - blen (val a))) (e + blen (val a) - 53)) 3)]), .v (.int .i64 0), .v (.int .i64 0)])) (entry 0 [.v (.int .i64 n), .v (.int .i64 d), .v (.bool s), .sl .u64 a, .sl .u64 b, .v (.int .i64 e)]) [] := by
  unfold code
  simp only [Try.f27, Option.getD_some]
  obtain ⟨rfl, hd, ha, hv, rfl, he1, he2⟩ := hp
  have f1 : fp 4 = 53 := rfl
  have f2 : fx 4 = 11 := rfl
  have f3 : fe 4 = 1023 := rfl
  have val1 : val ([1] : List Int) = 1 := rfl
  have gl1 : (((limbs 1).length : Int) == 0) = false := rfl
  have gl2 : decide (((limbs 1).length : Int) > 800) = false := rfl
  have hL1 : 1 ≤ blen (val a) := by have := @blen_zero (val a); omega
  have hL2 : blen (val a) ≤ 53 := blen_lt.2 hv.2
  have hlen := len_limbs (val a)
  have gn1 : (((limbs (val a)).length : Int) == 0) = false := by simp only [beq_eq_false_iff_ne, ne_eq]; omega
  have gn2 : decide (((limbs (val a)).length : Int) > 800) = false := by simp only [decide_eq_false_iff_not]; omega
  have g0 : decide ((blen 0 : Int) ≤ 64) = true := by decide
  have gd1 : decide (d ≥ 0) = true := by simp only [decide_eq_true_eq]; omega
  have gd2 : decide (d ≤ 4) = true := by simp only [decide_eq_true_eq]; omega
  have mx : max e (-130000) = e := by omega
  have mn : min e 130000 = e := by omega
  obtain ⟨lw, hlw⟩ : ∃ lw : Nat, blen (val a) = lw + 1 := ⟨blen (val a) - 1, by omega⟩
  have lowE : (blen (val a) : Int) - (blen 1 : Int) = (lw : Int) := by
    have : blen 1 = 1 := rfl
    rw [this, hlw]; omega
  have en : 0 - (lw : Int) = -(lw : Int) := by omega
  have hpw : 2 ^ lw ≤ val a := blen_le.1 (by omega)
  have gA : decide ((lw : Int) + e ≥ 1024) = false := by simp only [decide_eq_false_iff_not]; omega
  have gB : decide ((lw : Int) + e < -1075) = false := by simp only [decide_eq_false_iff_not]; omega
  have qE : max (-1074) ((lw : Int) + e - 53 + 1) = (lw : Int) + e - 52 := by omega
  have kE : e - ((lw : Int) + e - 52) = 52 - (lw : Int) := by omega
  have hif2 : (0 ≤ 52 - (lw : Int)) = True := by simp only [eq_iff_iff, iff_true]; omega
  have hX1 : blen (val a * 2 ^ (52 - (lw : Int)).toNat) = 53 := by rw [blen_mul (by omega), hlw]; omega
  have hX2 : val a * 2 ^ (52 - (lw : Int)).toNat < 2 ^ 53 := blen_lt.1 (by omega)
  have hX3 : val a * 2 ^ (52 - (lw : Int)).toNat < 2 ^ 256 := Nat.lt_of_lt_of_le hX2 (Nat.pow_le_pow_right (by omega) (by omega))
  have V4X := V4_limbs hX3
  have gC : decide ((blen (val a * 2 ^ (52 - (lw : Int)).toNat) : Int) > 53) = false := by rw [hX1]; rfl
  have gD : decide ((lw : Int) + e - 52 > 971) = false := by simp only [decide_eq_false_iff_not]; omega
  have l4 : (limbs 1).length = 1 := rfl
  have s1 := sz_limbs (val a)
  have s2 : sz (limbs 1) = 1 := rfl
  have s3 := sz_limbs (val a * 2 ^ (52 - (lw : Int)).toNat)
  have l5 := len_le_of (k := 1) (show val a * 2 ^ (52 - (lw : Int)).toNat < 2 ^ (64 * 1) from Nat.lt_of_lt_of_le hX2 (Nat.pow_le_pow_right (by omega) (by omega)))
  have l6 : (limbs (val a * 2 ^ (-(lw : Int)).toNat)).length ≤ 4 := by
    rw [show (-(lw : Int)).toNat = 0 by omega, Nat.pow_zero, Nat.mul_one]; omega
  have l7 : (limbs (1 * 2 ^ (- -(lw : Int)).toNat)).length ≤ 4 := by
    rw [show (- -(lw : Int)).toNat = lw by omega, Nat.one_mul]; have := len_mono hpw; omega
  rcases Nat.eq_zero_or_pos lw with h0 | h0
  all_goals first
    | (have hif : (0 ≤ -(lw : Int)) = True := by simp only [eq_iff_iff, iff_true]; omega)
    | (have hif : (0 ≤ -(lw : Int)) = False := by simp only [eq_iff_iff, iff_false]; omega)
  all_goals first
    | (have cmpF : decide (cmpI (val a * 2 ^ (-(lw : Int)).toNat) 1 < 0) = false := by simp only [cmpI_neg, decide_eq_false_iff_not]; rw [h0]; simp; omega)
    | (have cmpF : decide (cmpI (val a) (1 * 2 ^ (- -(lw : Int)).toNat) < 0) = false := by
         simp only [cmpI_neg, decide_eq_false_iff_not]
         rw [show (- -(lw : Int)).toNat = lw by omega]
         omega)
  all_goals repeat' (first
    | ((first
       | (with_reducible refine ops_k ?_; intro X hX)
       | (with_reducible refine opsN_k ?_; intro X hX)
       | (with_reducible show awp _ _ _ _ (keepL _ _) _)
       | with_reducible refine awp_cond_k ?_
       | (with_reducible refine Brk_i ?_ ?_ <;> intro hb <;> (try simp only [hb]) <;> have hq := hb <;> try simp only [decide_eq_true_eq, decide_eq_false_iff_not, gt_iff_lt, ge_iff_le, Int.not_lt, Int.not_le, beq_iff_eq, beq_eq_false_iff_ne, Bool.not_eq_true', Bool.not_eq_false', Bool.and_eq_true, Bool.or_eq_true, Bool.and_eq_false_imp, Bool.or_eq_false_iff, ne_eq, Classical.not_not] at hq)
       | with_reducible refine retP_ret_i ?_
       | with_reducible refine retP_normal_i ?_
       | (with_reducible (show bindG _ _ _ _ _); simp only [hall])) <;> try simp only [Go.AM.S1, Go.AM.S2, Go.AM.S3, Go.AM.S4, Go.AM.S5, Go.AM.S6, Go.AM.S7, Go.AM.S8, Go.AM.S9, Nat.reduceAdd, Nat.reduceMul, Nat.reduceSub, ↓reduceIte, Nat.reduceEqDiff, Nat.reduceLT, Nat.reduceLeDiff, reduceCtorEq, Int.reduceBEq, Int.reduceBNe, Nat.reduceBEq, Int.reduceEq, Int.reduceToNat, Int.reduceLE, Int.reduceLT, Nat.reduceDiv, Int.reduceAdd, Int.reduceSub, Int.reduceMul, Int.reduceNeg, Int.reduceGT, Int.reduceGE, Nat.reduceMod, k27_23, s23_eq, k27_24, s24_eq, k27_28, s28_eq, k27_42, s42_eq, k27_43, s43_eq, s43_nil1, k27_44, s44_eq, s44_nil1, k27_45, s45_eq, s45_nil1, s45_nil2, s45_nil3, k27_46, s46_eq, s46_nil1, s46_nil2, s46_nil3, k27_48, s48_eq, s48_nil1, s48_nil2, s48_nil3, k27_49, s49_eq, s49_nil1, k27_50, s50_eq, s50_nil1, ty_3, ty_4, ty_9, ty_26, ty_28, ty_42, ty_53, ty_58, f1, f2, f3, val1, gl1, gl2, gn1, gn2, g0, V4_x, gd1, gd2, mx, mn, val_limbs, lowE, en, hif, cmpF, gA, gB, qE, kE, hif2, divS_one, gC, gD, V4X])
    | (with_reducible refine hX _ _ ?_; clear hX X)
    | with_reducible refine ops_nil_i ?_
    | with_reducible refine opsN_nil_i ?_
    | (with_reducible refine hK _ _ ?_; clear hK K)
    | with_reducible refine thenP_normal_i ?_
    | with_reducible refine zzr34 _ _ ?_
    | with_reducible refine zzr33 _ _ ?_
    | with_reducible refine zzsr29 _ _ ?_
    | with_reducible refine zzr31 _ _ ?_
    | with_reducible refine zzr30 _ _ ?_
    | with_reducible refine zzr29 _ _ ?_
    | with_reducible refine zzr28 _ _ ?_
    | with_reducible refine zzsr26 _ _ ?_
    | with_reducible refine zzr27 _ _ ?_
    | with_reducible refine zzr26 _ _ ?_
    | with_reducible refine zzsr23 _ _ ?_
    | with_reducible refine zzr24 _ _ ?_
    | with_reducible refine zzr23 _ _ ?_
    | with_reducible refine zzr22 _ _ ?_
    | with_reducible refine zzr21 _ _ ?_
    | with_reducible refine zzr20 _ _ ?_
    | with_reducible refine zzb1 _ _ ?_
    | with_reducible refine zzr17 _ _ ?_
    | with_reducible refine zzr18 _ _ ?_
    | with_reducible refine zzr16 _ _ ?_
    | with_reducible refine zzr15 _ _ ?_
    | with_reducible refine zzsr12 _ _ ?_
    | with_reducible refine zzr13 _ _ ?_
    | with_reducible refine zzr12 _ _ ?_
    | with_reducible refine zzr11 _ _ ?_
    | with_reducible refine zzr10 _ _ ?_
    | with_reducible refine zzb0 _ _ ?_
    | with_reducible refine zzr4 _ _ ?_
    | with_reducible refine zzr6 _ _ ?_
    | with_reducible refine zzr9 _ _ ?_
    | with_reducible refine zzr8 _ _ ?_
    | with_reducible refine zzr7 _ _ ?_
    | with_reducible refine zzr5 _ _ ?_
    | with_reducible refine zzr3 _ _ ?_
    | with_reducible refine zzr2 _ _ ?_
    | with_reducible refine zzr1 _ _ ?_
    | with_reducible refine zzr0 _ _ ?_
    | (with_reducible refine awp_seq_l (a := .region 34 _ _) [12, 13, 14] ?_; intro Kzzr34 zzr34)
    | (with_reducible refine awp_seq_l (a := .region 33 _ _) [12, 27, 28, 29] ?_; intro Kzzr33 zzr33)
    | (with_reducible refine awp_seq_l (a := .seq (.region 29 _ _) _) [0, 2, 12, 22, 25, 27] ?_; intro Kzzsr29 zzsr29)
    | (with_reducible refine awp_seq_l (a := .region 31 _ _) [0, 2, 12, 22, 25, 27, 190] ?_; intro Kzzr31 zzr31)
    | (with_reducible refine awp_seq_l (a := .region 30 _ _) [0, 2, 12, 15, 19, 22, 25, 27] ?_; intro Kzzr30 zzr30)
    | (with_reducible refine awp_seq_l (a := .region 29 _ _) [0, 2, 12, 15, 19, 22, 25, 27, 182] ?_; intro Kzzr29 zzr29)
    | (with_reducible refine awp_seq_l (a := .region 28 _ _) [0, 2, 12, 15, 19, 22, 25, 26, 27] ?_; intro Kzzr28 zzr28)
    | (with_reducible refine awp_seq_l (a := .seq (.region 26 _ _) _) [0, 2, 12, 15, 19, 22, 25, 26] ?_; intro Kzzsr26 zzsr26)
    | (with_reducible refine awp_seq_l (a := .region 27 _ _) [12, 13, 14] ?_; intro Kzzr27 zzr27)
    | (with_reducible refine awp_seq_l (a := .region 26 _ _) [0, 1, 2, 12, 15, 19, 22, 25, 26, 173] ?_; intro Kzzr26 zzr26)
    | (with_reducible refine awp_seq_l (a := .seq (.region 23 _ _) _) [0, 1, 2, 12, 15, 19, 22, 25, 26] ?_; intro Kzzsr23 zzsr23)
    | (with_reducible refine awp_seq_l (a := .region 24 _ _) [0, 1, 2, 12, 15, 19, 22, 25, 26] ?_; intro Kzzr24 zzr24)
    | (with_reducible refine awp_seq_l (a := .region 23 _ _) [0, 1, 2, 12, 15, 19, 22, 25, 26, 162] ?_; intro Kzzr23 zzr23)
    | (with_reducible refine awp_seq_l (a := .region 22 _ _) [0, 1, 2, 12, 15, 19, 22, 25, 26] ?_; intro Kzzr22 zzr22)
    | (with_reducible refine awp_seq_l (a := .region 21 _ _) [0, 1, 2, 12, 15, 19, 22, 23, 24] ?_; intro Kzzr21 zzr21)
    | (with_reducible refine awp_seq_l (a := .region 20 _ _) [0, 1, 2, 3, 4, 5, 12, 15, 19, 22] ?_; intro Kzzr20 zzr20)
    | (with_reducible refine awp_seq_l (a := .block 1 _) [0, 1, 2, 3, 4, 5, 12, 15, 19] ?_; intro Kzzb1 zzb1)
    | (with_reducible refine awp_seq_l (a := .region 17 _ _) [12, 13, 14] ?_; intro Kzzr17 zzr17)
    | (with_reducible refine awp_seq_l (a := .region 18 _ _) [0, 1, 2, 3, 4, 5, 12, 15, 19, 119] ?_; intro Kzzr18 zzr18)
    | (with_reducible refine awp_seq_l (a := .region 16 _ _) [0, 1, 2, 3, 4, 5, 12, 15, 19, 104] ?_; intro Kzzr16 zzr16)
    | (with_reducible refine awp_seq_l (a := .region 15 _ _) [0, 1, 2, 3, 4, 5, 12, 15, 19] ?_; intro Kzzr15 zzr15)
    | (with_reducible refine awp_seq_l (a := .seq (.region 12 _ _) _) [0, 1, 2, 3, 4, 5, 12, 15, 19] ?_; intro Kzzsr12 zzsr12)
    | (with_reducible refine awp_seq_l (a := .region 13 _ _) [0, 1, 2, 3, 4, 5, 12, 15, 19, 98] ?_; intro Kzzr13 zzr13)
    | (with_reducible refine awp_seq_l (a := .region 12 _ _) [0, 1, 2, 3, 4, 5, 12, 15, 19, 20, 21] ?_; intro Kzzr12 zzr12)
    | (with_reducible refine awp_seq_l (a := .region 11 _ _) [0, 1, 2, 3, 4, 5, 12, 15, 19] ?_; intro Kzzr11 zzr11)
    | (with_reducible refine awp_seq_l (a := .region 10 _ _) [0, 1, 2, 3, 4, 5, 12, 15] ?_; intro Kzzr10 zzr10)
    | (with_reducible refine awp_seq_l (a := .block 0 _) [0, 1, 2, 3, 4, 5, 12, 15] ?_; intro Kzzb0 zzb0)
    | (with_reducible refine awp_seq_l (a := .region 4 _ _) [12, 13, 14] ?_; intro Kzzr4 zzr4)
    | (with_reducible refine awp_seq_l (a := .region 6 _ _) [12, 13, 14] ?_; intro Kzzr6 zzr6)
    | (with_reducible refine awp_seq_l (a := .region 9 _ _) [12, 13, 14] ?_; intro Kzzr9 zzr9)
    | (with_reducible refine awp_seq_l (a := .region 8 _ _) [12, 17, 18] ?_; intro Kzzr8 zzr8)
    | (with_reducible refine awp_seq_l (a := .region 7 _ _) [0, 1, 2, 3, 4, 5, 12, 15, 64] ?_; intro Kzzr7 zzr7)
    | (with_reducible refine awp_seq_l (a := .region 5 _ _) [0, 1, 2, 3, 4, 5, 12, 15, 54] ?_; intro Kzzr5 zzr5)
    | (with_reducible refine awp_seq_l (a := .region 3 _ _) [0, 1, 2, 3, 4, 5, 12, 15, 40] ?_; intro Kzzr3 zzr3)
    | (with_reducible refine awp_seq_l (a := .region 2 _ _) [0, 1, 2, 3, 4, 5, 12, 15, 16] ?_; intro Kzzr2 zzr2)
    | (with_reducible refine awp_seq_l (a := .region 1 _ _) [0, 1, 2, 3, 4, 5, 12, 15, 16] ?_; intro Kzzr1 zzr1)
    | (with_reducible refine awp_seq_l (a := .region 0 _ _) [0, 1, 2, 3, 4, 5, 12] ?_; intro Kzzr0 zzr0)
    | (with_reducible refine awp_seq_k ?_; intro K hK)
    | (with_reducible refine awp_region_a ?_; intro all hall K hK)
    | (with_reducible refine awp_draw_n ?_ ?_; kernel_rfl; intro all hall K hK)
    | (with_reducible refine Chk_i ?_ ?_)
    | (with_reducible refine keysC_i ?_; kernel_rfl)
    | (with_reducible first | refine awp_block_i ?_ | refine awp_skip_i ?_ | refine awp_ret_i ?_ | refine awp_exit_i ?_ | refine thenP_ret_i ?_ | refine thenP_exit_i ?_ | refine lpP_ret_i ?_ | refine lpP_exit_i ?_ | refine unrP_succ_i ?_ | refine unrP_ret_i ?_ | refine unrP_exit_i ?_ | refine blockP_normal_i ?_ | refine blockP_ret_i ?_)
    | (with_reducible refine blockP_exit_i ?_; simp only [↓reduceIte, Nat.reduceEqDiff])
    | with_reducible refine lpP_normal_i ?_)
  all_goals (try simp only [inR])
  all_goals first
    | omega
    | exact ⟨ha.1, by omega⟩
    | exact lim_one ⟨by omega, by omega⟩
    | exact ⟨lim_one ⟨by omega, by omega⟩, by omega⟩
    | exact ⟨lim_limbs _, by omega⟩
    | exact ⟨⟨lim_limbs _, by omega⟩, lim_limbs _, by omega⟩
    | exact ⟨⟨lim_limbs _, by omega⟩, ⟨lim_limbs _, by omega⟩, fun _ => by omega, fun _ => by omega, by omega, by omega⟩
    | exact ⟨⟨lim_limbs _, by omega⟩, ⟨lim_limbs _, by omega⟩, by omega, by omega⟩
    | exact ⟨⟨lim_limbs _, by omega⟩, ⟨lim_limbs _, by omega⟩, fun _ => by omega, by omega, by omega⟩
    | exact ⟨⟨lim_get (lim_limbs _), lim_get (lim_limbs _), lim_get (lim_limbs _), lim_get (lim_limbs _)⟩, .inl ⟨by omega, by omega, by omega⟩⟩
    | (rw [show (52 - (lw : Int)).toNat = 53 - blen (val a) by omega, show (lw : Int) + e - 52 = e + (blen (val a) : Int) - 53 by omega])
    | skip
theorem sound_27 : Sound Try.prog 27 .body (norm s27) := by
  refine sound_norm (sound_body Try.func27 (show Try.f27.body = some (code Try.f27) from rfl) (by kernel_rfl) tysOk G42_ok (drawOk_ok (by kernel_rfl) tysOk G42_ok) (by kernel_rfl) fun ds p r hs hp => ?_)
  unfold s27 at hs
  split at hs
  · cases hs; exact ⟨Nat.le_of_ble_eq_true (by kernel_rfl), w27 _ _ _ _ _ _ hp⟩
  · cases hs
noncomputable def G27 : Gam := (27, .body, norm s27) :: G42
theorem G27_ok : GamOk Try.prog G27 := gamOk_cons sound_27 G42_ok
end Go.Proofs.AMT
set_option maxRecDepth 20000
namespace Go.Proofs.AMT
open Go.AM Go.AM.LN
attribute [local congr] bindO_congr bindS_congr bindG_congr awpOps_congr aOne_congr awp_congr aCond_congr awpD_congr dOne_congr keysB_congr nOne_congr thenP_congr blockP_congr Chk_congr Brk_congr
noncomputable def s26 : CSpec := fun ds => match ds with
  | [.v (.int .i64 n), .v (.int .i64 d), .v (.bool s), .v (.agg ⟨[.int .u64 c0, .int .u64 c1, .int .u64 c2, .int .u64 c3]⟩), .v (.int .i64 e)] => some (n = 4 ∧ (0 ≤ d ∧ d ≤ 4) ∧ ((0 ≤ c0 ∧ c0 < 18446744073709551616) ∧ (0 ≤ c1 ∧ c1 < 18446744073709551616) ∧ (0 ≤ c2 ∧ c2 < 18446744073709551616) ∧ (0 ≤ c3 ∧ c3 < 18446744073709551616)) ∧ (0 < (val [c0, c1, c2, c3]) ∧ (val [c0, c1, c2, c3]) < 2 ^ 53) ∧ -1000 ≤ e ∧ e ≤ 900, .many [.v (.agg #[.int .u64 (w4 (packS 4 1 s ((val [c0, c1, c2, c3]) * 2 ^ (53 - blen (val [c0, c1, c2, c3]))) (e + blen (val [c0, c1, c2, c3]) - 53)) 0), .int .u64 (w4 (packS 4 1 s ((val [c0, c1, c2, c3]) * 2 ^ (53 - blen (val [c0, c1, c2, c3]))) (e + blen (val [c0, c1, c2, c3]) - 53)) 1), .int .u64 (w4 (packS 4 1 s ((val [c0, c1, c2, c3]) * 2 ^ (53 - blen (val [c0, c1, c2, c3]))) (e + blen (val [c0, c1, c2, c3]) - 53)) 2), .int .u64 (w4 (packS 4 1 s ((val [c0, c1, c2, c3]) * 2 ^ (53 - blen (val [c0, c1, c2, c3]))) (e + blen (val [c0, c1, c2, c3]) - 53)) 3)]), .v (.int .i64 0), .v (.int .i64 0)])
  | _ => none
theorem s26_eq (n : Int) (d : Int) (s : Bool) (c0 c1 c2 c3 : Int) (e : Int) : norm s26 [.v (.int .i64 n), .v (.int .i64 d), .v (.bool s), .v (.agg #[.int .u64 c0, .int .u64 c1, .int .u64 c2, .int .u64 c3]), .v (.int .i64 e)] = some (n = 4 ∧ (0 ≤ d ∧ d ≤ 4) ∧ ((0 ≤ c0 ∧ c0 < 18446744073709551616) ∧ (0 ≤ c1 ∧ c1 < 18446744073709551616) ∧ (0 ≤ c2 ∧ c2 < 18446744073709551616) ∧ (0 ≤ c3 ∧ c3 < 18446744073709551616)) ∧ (0 < (val [c0, c1, c2, c3]) ∧ (val [c0, c1, c2, c3]) < 2 ^ 53) ∧ -1000 ≤ e ∧ e ≤ 900, .many [.v (.agg #[.int .u64 (w4 (packS 4 1 s ((val [c0, c1, c2, c3]) * 2 ^ (53 - blen (val [c0, c1, c2, c3]))) (e + blen (val [c0, c1, c2, c3]) - 53)) 0), .int .u64 (w4 (packS 4 1 s ((val [c0, c1, c2, c3]) * 2 ^ (53 - blen (val [c0, c1, c2, c3]))) (e + blen (val [c0, c1, c2, c3]) - 53)) 1), .int .u64 (w4 (packS 4 1 s ((val [c0, c1, c2, c3]) * 2 ^ (53 - blen (val [c0, c1, c2, c3]))) (e + blen (val [c0, c1, c2, c3]) - 53)) 2), .int .u64 (w4 (packS 4 1 s ((val [c0, c1, c2, c3]) * 2 ^ (53 - blen (val [c0, c1, c2, c3]))) (e + blen (val [c0, c1, c2, c3]) - 53)) 3)]), .v (.int .i64 0), .v (.int .i64 0)]) := rfl
theorem k26_27 : lk G27 27 = some (.body, norm s27) := rfl
theorem k26_28 : lk G27 28 = some (.body, norm s28) := rfl
set_option maxHeartbeats 20000000 in
theorem w26 (n : Int) (d : Int) (s : Bool) (c0 c1 c2 c3 : Int) (e : Int) (hp : n = 4 ∧ (0 ≤ d ∧ d ≤ 4) ∧ ((0 ≤ c0 ∧ c0 < 18446744073709551616) ∧ (0 ≤ c1 ∧ c1 < 18446744073709551616) ∧ (0 ≤ c2 ∧ c2 < 18446744073709551616) ∧ (0 ≤ c3 ∧ c3 < 18446744073709551616)) ∧ (0 < (val [c0, c1, c2, c3]) ∧ (val [c0, c1, c2, c3]) < 2 ^ 53) ∧ -1000 ≤ e ∧ e ≤ 900) : awp ty G27 (code Try.f26) (retP ty Try.f26.results.toList (.many [.v (.agg #[.int .u64 (w4 (packS 4 1 s ((val [c0, c1, c2, c3]) * 2 ^ (53 - blen (val [c0, c1, c2, c3]))) (e + blen (val [c0, c1, c2, c3]) - 53)) 0), .int .u64 (w4 (packS 4 1 s ((val [c0, c1, c2, c3]) * 2 ^ (53 - blen (val [c0, c1, c2, c3]))) (e + blen (val [c0, c1, c2, c3]) - 53)) 1), .int .u64 (w4 (packS 4 1 s ((val [c0, c1, c2, c3]) * 2 ^ (53 - blen (val [c0, c1, c2, c3]))) (e + blen (val [c0, c1, c2, c3]) - 53)) 2), .int .u64 (w4 (packS 4 1 s ((val [c0, c1, c2, c3]) * 2 ^ (53 - blen (val [c0, c1, c2, c3]))) (e + blen (val [c0, c1, c2, c3]) - 53)) 3)]), .v (.int .i64 0), .v (.int .i64 0)])) (entry 0 [.v (.int .i64 n), .v (.int .i64 d), .v (.bool s), .v (.agg #[.int .u64 c0, .int .u64 c1, .int .u64 c2, .int .u64 c3]), .v (.int .i64 e)]) [] := by
  unfold code
  simp only [Try.f26, Option.getD_some]
  obtain ⟨rfl, hd, hc, hv, he1, he2⟩ := hp
  have hl := lim4 hc.1 hc.2.1 hc.2.2.1 hc.2.2.2
  all_goals repeat' (first
    | ((first
       | (with_reducible refine ops_k ?_; intro X hX)
       | (with_reducible refine opsN_k ?_; intro X hX)
       | (with_reducible show awp _ _ _ _ (keepL _ _) _)
       | (with_reducible refine hX _ _ _ _ ?_; clear hX X)
       | (with_reducible refine opsD_k ?_; intro X hX)
       | with_reducible refine awp_cond_k ?_
       | (with_reducible refine Brk_i ?_ ?_ <;> intro hb <;> (try simp only [hb]) <;> have hq := hb <;> try simp only [decide_eq_true_eq, decide_eq_false_iff_not, gt_iff_lt, ge_iff_le, Int.not_lt, Int.not_le, beq_iff_eq, beq_eq_false_iff_ne, Bool.not_eq_true', Bool.not_eq_false', Bool.and_eq_true, Bool.or_eq_true, Bool.and_eq_false_imp, Bool.or_eq_false_iff, ne_eq, Classical.not_not] at hq)
       | with_reducible refine retP_ret_i ?_
       | with_reducible refine retP_normal_i ?_
       | (with_reducible (show bindG _ _ _ _ _); simp only [hall])) <;> try simp only [Go.AM.S1, Go.AM.S2, Go.AM.S3, Go.AM.S4, Go.AM.S5, Go.AM.S6, Go.AM.S7, Go.AM.S8, Go.AM.S9, Nat.reduceAdd, Nat.reduceMul, Nat.reduceSub, ↓reduceIte, Nat.reduceEqDiff, Nat.reduceLT, Nat.reduceLeDiff, reduceCtorEq, Int.reduceBEq, Int.reduceBNe, Nat.reduceBEq, Int.reduceEq, Int.reduceToNat, Int.reduceLE, Int.reduceLT, Nat.reduceDiv, Int.reduceAdd, Int.reduceSub, Int.reduceMul, Int.reduceNeg, Int.reduceGT, Int.reduceGE, Nat.reduceMod, k26_27, s27_eq, s27_nil1, s27_nil2, s27_nil3, k26_28, s28_eq, ty_3, ty_4, ty_26, ty_28, ty_42, toInts])
    | (with_reducible refine hX _ _ ?_; clear hX X)
    | with_reducible refine opsD_nil_i ?_
    | (with_reducible refine keysB_i ?_; kernel_rfl)
    | ((with_reducible show clashK _ _ _ = true); kernel_rfl)
    | with_reducible refine ops_nil_i ?_
    | with_reducible refine opsN_nil_i ?_
    | (with_reducible refine hK _ _ ?_; clear hK K)
    | with_reducible refine thenP_normal_i ?_
    | with_reducible refine zzr1 _ _ ?_
    | with_reducible refine zzr0 _ _ ?_
    | (with_reducible refine awp_seq_l (a := .region 1 _ _) [10, 11, 12] ?_; intro Kzzr1 zzr1)
    | (with_reducible refine awp_seq_l (a := .region 0 _ _) [0, 1, 2, 4, 8, 10] ?_; intro Kzzr0 zzr0)
    | (with_reducible refine awp_seq_k ?_; intro K hK)
    | (with_reducible refine awp_region_a ?_; intro all hall K hK)
    | (with_reducible refine awp_draw_a (id := 1) ?_ ?_; kernel_rfl; intro all hall K hK)
    | (with_reducible refine awp_draw_n ?_ ?_; kernel_rfl; intro all hall K hK)
    | (with_reducible refine Chk_i ?_ ?_)
    | (with_reducible refine keysC_i ?_; kernel_rfl)
    | (with_reducible first | refine awp_block_i ?_ | refine awp_skip_i ?_ | refine awp_ret_i ?_ | refine awp_exit_i ?_ | refine thenP_ret_i ?_ | refine thenP_exit_i ?_ | refine lpP_ret_i ?_ | refine lpP_exit_i ?_ | refine unrP_succ_i ?_ | refine unrP_ret_i ?_ | refine unrP_exit_i ?_ | refine blockP_normal_i ?_ | refine blockP_ret_i ?_)
    | (with_reducible refine blockP_exit_i ?_; simp only [↓reduceIte, Nat.reduceEqDiff])
    | with_reducible refine lpP_normal_i ?_)
  all_goals first
    | omega
    | exact ⟨hd, ⟨hl, by simp⟩, hv, rfl, he1, he2⟩
    | exact ⟨hd, hl, hv, rfl, he1, he2⟩
theorem sound_26 : Sound Try.prog 26 .body (norm s26) := by
  refine sound_norm (sound_body Try.func26 (show Try.f26.body = some (code Try.f26) from rfl) (by kernel_rfl) tysOk G27_ok (drawOk_ok (by kernel_rfl) tysOk G27_ok) (by kernel_rfl) fun ds p r hs hp => ?_)
  unfold s26 at hs
  split at hs
  · cases hs; exact ⟨Nat.le_of_ble_eq_true (by kernel_rfl), w26 _ _ _ _ _ _ _ _ hp⟩
  · cases hs
noncomputable def G26 : Gam := (26, .body, norm s26) :: G27
theorem G26_ok : GamOk Try.prog G26 := gamOk_cons sound_26 G27_ok
end Go.Proofs.AMT
set_option maxRecDepth 20000
namespace Go.Proofs.AMT
open Go.AM Go.AM.LN
attribute [local congr] bindO_congr bindS_congr bindG_congr awpOps_congr aOne_congr awp_congr aCond_congr awpD_congr dOne_congr keysB_congr nOne_congr thenP_congr blockP_congr Chk_congr Brk_congr
theorem V4_zero {a b c d : Int} (ha : 0 ≤ a) (hb : 0 ≤ b) (hc : 0 ≤ c) (hd : 0 ≤ d) : (a == 0 && (b == 0 && (c == 0 && d == 0))) = decide (V4 a b c d = 0) := by
  have h := V4_int ha hb hc hd
  rw [Bool.eq_iff_iff]
  simp only [Bool.and_eq_true, beq_iff_eq, decide_eq_true_eq]
  omega
noncomputable def s25 : CSpec := fun ds => match ds with
  | [.v (.int .i64 n), .v (.agg ⟨[.int .i64 cl, .bool sg, .bool si, .int .i64 ex, .int .u64 c0, .int .u64 c1, .int .u64 c2, .int .u64 c3]⟩)] => some (n = 4 ∧ ((0 ≤ c0 ∧ c0 < 18446744073709551616) ∧ (0 ≤ c1 ∧ c1 < 18446744073709551616) ∧ (0 ≤ c2 ∧ c2 < 18446744073709551616) ∧ (0 ≤ c3 ∧ c3 < 18446744073709551616)) ∧ si = false ∧ ((cl = 1 ∧ (V4 c0 c1 c2 c3) ≠ 0) ∨ (cl = 1 ∧ (V4 c0 c1 c2 c3) = 0) ∨ (cl = 2 ∧ (V4 c0 c1 c2 c3) = 0 ∧ ex = 0)), .many [.v (.agg #[.int .u64 (if cl = 1 ∧ (V4 c0 c1 c2 c3) ≠ 0 then 0 else w4 (packS 4 cl sg (V4 c0 c1 c2 c3) (if cl = 1 then -1074 else ex)) 0), .int .u64 (if cl = 1 ∧ (V4 c0 c1 c2 c3) ≠ 0 then 0 else w4 (packS 4 cl sg (V4 c0 c1 c2 c3) (if cl = 1 then -1074 else ex)) 1), .int .u64 (if cl = 1 ∧ (V4 c0 c1 c2 c3) ≠ 0 then 0 else w4 (packS 4 cl sg (V4 c0 c1 c2 c3) (if cl = 1 then -1074 else ex)) 2), .int .u64 (if cl = 1 ∧ (V4 c0 c1 c2 c3) ≠ 0 then 0 else w4 (packS 4 cl sg (V4 c0 c1 c2 c3) (if cl = 1 then -1074 else ex)) 3)]), .v (.int .i64 0), .v (.bool (if cl = 1 ∧ (V4 c0 c1 c2 c3) ≠ 0 then false else true))])
  | _ => none
theorem s25_eq (n : Int) (cl : Int) (sg : Bool) (si : Bool) (ex : Int) (c0 : Int) (c1 : Int) (c2 : Int) (c3 : Int) : norm s25 [.v (.int .i64 n), .v (.agg #[.int .i64 cl, .bool sg, .bool si, .int .i64 ex, .int .u64 c0, .int .u64 c1, .int .u64 c2, .int .u64 c3])] = some (n = 4 ∧ ((0 ≤ c0 ∧ c0 < 18446744073709551616) ∧ (0 ≤ c1 ∧ c1 < 18446744073709551616) ∧ (0 ≤ c2 ∧ c2 < 18446744073709551616) ∧ (0 ≤ c3 ∧ c3 < 18446744073709551616)) ∧ si = false ∧ ((cl = 1 ∧ (V4 c0 c1 c2 c3) ≠ 0) ∨ (cl = 1 ∧ (V4 c0 c1 c2 c3) = 0) ∨ (cl = 2 ∧ (V4 c0 c1 c2 c3) = 0 ∧ ex = 0)), .many [.v (.agg #[.int .u64 (if cl = 1 ∧ (V4 c0 c1 c2 c3) ≠ 0 then 0 else w4 (packS 4 cl sg (V4 c0 c1 c2 c3) (if cl = 1 then -1074 else ex)) 0), .int .u64 (if cl = 1 ∧ (V4 c0 c1 c2 c3) ≠ 0 then 0 else w4 (packS 4 cl sg (V4 c0 c1 c2 c3) (if cl = 1 then -1074 else ex)) 1), .int .u64 (if cl = 1 ∧ (V4 c0 c1 c2 c3) ≠ 0 then 0 else w4 (packS 4 cl sg (V4 c0 c1 c2 c3) (if cl = 1 then -1074 else ex)) 2), .int .u64 (if cl = 1 ∧ (V4 c0 c1 c2 c3) ≠ 0 then 0 else w4 (packS 4 cl sg (V4 c0 c1 c2 c3) (if cl = 1 then -1074 else ex)) 3)]), .v (.int .i64 0), .v (.bool (if cl = 1 ∧ (V4 c0 c1 c2 c3) ≠ 0 then false else true))]) := rfl
theorem k25_39 : lk G26 39 = some (.body, norm s39) := rfl
theorem k25_42 : lk G26 42 = some (.body, norm s42) := rfl
set_option maxHeartbeats 20000000 in
theorem w25 (n : Int) (cl : Int) (sg : Bool) (si : Bool) (ex : Int) (c0 : Int) (c1 : Int) (c2 : Int) (c3 : Int) (hp : n = 4 ∧ ((0 ≤ c0 ∧ c0 < 18446744073709551616) ∧ (0 ≤ c1 ∧ c1 < 18446744073709551616) ∧ (0 ≤ c2 ∧ c2 < 18446744073709551616) ∧ (0 ≤ c3 ∧ c3 < 18446744073709551616)) ∧ si = false ∧ ((cl = 1 ∧ (V4 c0 c1 c2 c3) ≠ 0) ∨ (cl = 1 ∧ (V4 c0 c1 c2 c3) = 0) ∨ (cl = 2 ∧ (V4 c0 c1 c2 c3) = 0 ∧ ex = 0))) : awp ty G26 (code Try.f25) (retP ty Try.f25.results.toList (.many [.v (.agg #[.int .u64 (if cl = 1 ∧ (V4 c0 c1 c2 c3) ≠ 0 then 0 else w4 (packS 4 cl sg (V4 c0 c1 c2 c3) (if cl = 1 then -1074 else ex)) 0), .int .u64 (if cl = 1 ∧ (V4 c0 c1 c2 c3) ≠ 0 then 0 else w4 (packS 4 cl sg (V4 c0 c1 c2 c3) (if cl = 1 then -1074 else ex)) 1), .int .u64 (if cl = 1 ∧ (V4 c0 c1 c2 c3) ≠ 0 then 0 else w4 (packS 4 cl sg (V4 c0 c1 c2 c3) (if cl = 1 then -1074 else ex)) 2), .int .u64 (if cl = 1 ∧ (V4 c0 c1 c2 c3) ≠ 0 then 0 else w4 (packS 4 cl sg (V4 c0 c1 c2 c3) (if cl = 1 then -1074 else ex)) 3)]), .v (.int .i64 0), .v (.bool (if cl = 1 ∧ (V4 c0 c1 c2 c3) ≠ 0 then false else true))])) (entry 0 [.v (.int .i64 n), .v (.agg #[.int .i64 cl, .bool sg, .bool si, .int .i64 ex, .int .u64 c0, .int .u64 c1, .int .u64 c2, .int .u64 c3])]) [] := by
  unfold code
  simp only [Try.f25, Option.getD_some]
  obtain ⟨rfl, hc, rfl, hh⟩ := hp
  have gz := V4_zero hc.1.1 hc.2.1.1 hc.2.2.1.1 hc.2.2.2.1
  have f1 : fp 4 = 53 := rfl
  have f2 : fx 4 = 11 := rfl
  have f3 : fe 4 = 1023 := rfl
  rcases hh with ⟨rfl, hV⟩ | ⟨rfl, hV⟩ | ⟨rfl, hV, rfl⟩
  all_goals first
    | (have gV : decide (V4 c0 c1 c2 c3 = 0) = true := by simp only [decide_eq_true_eq]; exact hV)
    | (have gV : decide (V4 c0 c1 c2 c3 = 0) = false := by simp only [decide_eq_false_iff_not]; exact hV)
  all_goals rw [gV] at gz
  all_goals repeat' (first
    | ((first
       | (with_reducible refine ops_k ?_; intro X hX)
       | (with_reducible refine opsN_k ?_; intro X hX)
       | (with_reducible show awp _ _ _ _ (keepL _ _) _)
       | with_reducible refine awp_cond_k ?_
       | (with_reducible refine Brk_i ?_ ?_ <;> intro hb <;> (try simp only [hb]) <;> have hq := hb <;> try simp only [decide_eq_true_eq, decide_eq_false_iff_not, gt_iff_lt, ge_iff_le, Int.not_lt, Int.not_le, beq_iff_eq, beq_eq_false_iff_ne, Bool.not_eq_true', Bool.not_eq_false', Bool.and_eq_true, Bool.or_eq_true, Bool.and_eq_false_imp, Bool.or_eq_false_iff, ne_eq, Classical.not_not] at hq)
       | with_reducible refine retP_ret_i ?_
       | with_reducible refine retP_normal_i ?_
       | (with_reducible (show bindG _ _ _ _ _); simp only [hall])) <;> try simp only [Go.AM.S1, Go.AM.S2, Go.AM.S3, Go.AM.S4, Go.AM.S5, Go.AM.S6, Go.AM.S7, Go.AM.S8, Go.AM.S9, Nat.reduceAdd, Nat.reduceMul, Nat.reduceSub, ↓reduceIte, Nat.reduceEqDiff, Nat.reduceLT, Nat.reduceLeDiff, reduceCtorEq, Int.reduceBEq, Int.reduceBNe, Nat.reduceBEq, Int.reduceEq, Int.reduceToNat, Int.reduceLE, Int.reduceLT, Nat.reduceDiv, Int.reduceAdd, Int.reduceSub, Int.reduceMul, Int.reduceNeg, Int.reduceGT, Int.reduceGE, Nat.reduceMod, k25_39, s39_eq, k25_42, s42_eq, ty_3, ty_4, ty_9, ty_26, ty_28, ty_53, ty_58, gz, f1, f2, f3])
    | (with_reducible refine hX _ _ ?_; clear hX X)
    | with_reducible refine ops_nil_i ?_
    | with_reducible refine opsN_nil_i ?_
    | (with_reducible refine hK _ _ ?_; clear hK K)
    | with_reducible refine thenP_normal_i ?_
    | with_reducible refine zzr10 _ _ ?_
    | with_reducible refine zzr9 _ _ ?_
    | with_reducible refine zzb0 _ _ ?_
    | with_reducible refine zzr5 _ _ ?_
    | with_reducible refine zzr7 _ _ ?_
    | with_reducible refine zzr6 _ _ ?_
    | with_reducible refine zzr4 _ _ ?_
    | with_reducible refine zzr2 _ _ ?_
    | with_reducible refine zzr1 _ _ ?_
    | with_reducible refine zzr0 _ _ ?_
    | (with_reducible refine awp_seq_l (a := .region 10 _ _) [4, 5, 6] ?_; intro Kzzr10 zzr10)
    | (with_reducible refine awp_seq_l (a := .region 9 _ _) [4, 7, 10] ?_; intro Kzzr9 zzr9)
    | (with_reducible refine awp_seq_l (a := .block 0 _) [0, 3, 4, 7] ?_; intro Kzzb0 zzb0)
    | (with_reducible refine awp_seq_l (a := .region 5 _ _) [4, 5, 6] ?_; intro Kzzr5 zzr5)
    | (with_reducible refine awp_seq_l (a := .region 7 _ _) [0, 3, 4, 7, 8] ?_; intro Kzzr7 zzr7)
    | (with_reducible refine awp_seq_l (a := .region 6 _ _) [0, 3, 4, 7, 33] ?_; intro Kzzr6 zzr6)
    | (with_reducible refine awp_seq_l (a := .region 4 _ _) [0, 3, 4, 7, 22] ?_; intro Kzzr4 zzr4)
    | (with_reducible refine awp_seq_l (a := .region 2 _ _) [0, 3, 4, 7, 12] ?_; intro Kzzr2 zzr2)
    | (with_reducible refine awp_seq_l (a := .region 1 _ _) [0, 3, 4, 7] ?_; intro Kzzr1 zzr1)
    | (with_reducible refine awp_seq_l (a := .region 0 _ _) [0, 3, 4] ?_; intro Kzzr0 zzr0)
    | (with_reducible refine awp_seq_k ?_; intro K hK)
    | (with_reducible refine awp_region_a ?_; intro all hall K hK)
    | (with_reducible refine awp_draw_n ?_ ?_; kernel_rfl; intro all hall K hK)
    | (with_reducible refine Chk_i ?_ ?_)
    | (with_reducible refine keysC_i ?_; kernel_rfl)
    | (with_reducible first | refine awp_block_i ?_ | refine awp_skip_i ?_ | refine awp_ret_i ?_ | refine awp_exit_i ?_ | refine thenP_ret_i ?_ | refine thenP_exit_i ?_ | refine lpP_ret_i ?_ | refine lpP_exit_i ?_ | refine unrP_succ_i ?_ | refine unrP_ret_i ?_ | refine unrP_exit_i ?_ | refine blockP_normal_i ?_ | refine blockP_ret_i ?_)
    | (with_reducible refine blockP_exit_i ?_; simp only [↓reduceIte, Nat.reduceEqDiff])
    | with_reducible refine lpP_normal_i ?_)
  all_goals first
    | omega
    | (have hb0 : blen (V4 c0 c1 c2 c3) = 0 := by rw [hV]; rfl
       exact ⟨hc, by omega⟩)
    | (simp only [if_pos hV]; all_goals (first | rfl | exact ⟨rfl, rfl⟩))
    | (simp [hV]; done)
theorem sound_25 : Sound Try.prog 25 .body (norm s25) := by
  refine sound_norm (sound_body Try.func25 (show Try.f25.body = some (code Try.f25) from rfl) (by kernel_rfl) tysOk G26_ok (drawOk_ok (by kernel_rfl) tysOk G26_ok) (by kernel_rfl) fun ds p r hs hp => ?_)
  unfold s25 at hs
  split at hs
  · cases hs; exact ⟨Nat.le_of_ble_eq_true (by kernel_rfl), w25 _ _ _ _ _ _ _ _ _ hp⟩
  · cases hs
noncomputable def G25 : Gam := (25, .body, norm s25) :: G26
theorem G25_ok : GamOk Try.prog G25 := gamOk_cons sound_25 G26_ok
end Go.Proofs.AMT
set_option maxRecDepth 20000
namespace Go.Proofs.AMT
open Go.AM Go.AM.LN
attribute [local congr] bindO_congr bindS_congr bindG_congr awpOps_congr aOne_congr awp_congr aCond_congr awpD_congr dOne_congr keysB_congr nOne_congr thenP_congr blockP_congr Chk_congr Brk_congr
theorem w4_small {E : Nat} (h : E < 18446744073709551616) : w4 E 0 = (E : Int) := by
  unfold w4; rw [Nat.mul_zero, Nat.pow_zero, Nat.div_one, Nat.mod_eq_of_lt h]
theorem w4_zero (i : Nat) : w4 0 i = 0 := by unfold w4; simp
noncomputable def s22 : CSpec := fun ds => match ds with
  | [.v (.int .i64 n), .v (.agg ⟨[.int .u64 b0, .int .u64 b1, .int .u64 b2, .int .u64 b3]⟩)] => some (n = 3 ∧ (0 ≤ b0 ∧ b0 < 4294967296) ∧ b1 = 0 ∧ b2 = 0 ∧ b3 = 0 ∧ ((b0.toNat / 2 ^ 23 % 2 ^ 8) = 255 → (b0.toNat % 2 ^ 23) = 0), .many [.v (.agg #[.int .i64 (if (b0.toNat / 2 ^ 23 % 2 ^ 8) = 255 then 2 else 1), .bool (b0.toNat / 2 ^ 31 % 2 == 1), .bool false, .int .i64 (if (b0.toNat / 2 ^ 23 % 2 ^ 8) = 255 then 0 else -149 + max ((((b0.toNat / 2 ^ 23 % 2 ^ 8) : Nat) : Int) - 1) 0), .int .u64 (if (b0.toNat / 2 ^ 23 % 2 ^ 8) = 255 then 0 else w4 (if (b0.toNat / 2 ^ 23 % 2 ^ 8) = 0 then (b0.toNat % 2 ^ 23) else (b0.toNat % 2 ^ 23) ||| 1 * 2 ^ 23 % 2 ^ 256) 0), .int .u64 (if (b0.toNat / 2 ^ 23 % 2 ^ 8) = 255 then 0 else w4 (if (b0.toNat / 2 ^ 23 % 2 ^ 8) = 0 then (b0.toNat % 2 ^ 23) else (b0.toNat % 2 ^ 23) ||| 1 * 2 ^ 23 % 2 ^ 256) 1), .int .u64 (if (b0.toNat / 2 ^ 23 % 2 ^ 8) = 255 then 0 else w4 (if (b0.toNat / 2 ^ 23 % 2 ^ 8) = 0 then (b0.toNat % 2 ^ 23) else (b0.toNat % 2 ^ 23) ||| 1 * 2 ^ 23 % 2 ^ 256) 2), .int .u64 (if (b0.toNat / 2 ^ 23 % 2 ^ 8) = 255 then 0 else w4 (if (b0.toNat / 2 ^ 23 % 2 ^ 8) = 0 then (b0.toNat % 2 ^ 23) else (b0.toNat % 2 ^ 23) ||| 1 * 2 ^ 23 % 2 ^ 256) 3)]), .v (.int .i64 0)])
  | _ => none
theorem s22_eq (n : Int) (b0 b1 b2 b3 : Int) : norm s22 [.v (.int .i64 n), .v (.agg #[.int .u64 b0, .int .u64 b1, .int .u64 b2, .int .u64 b3])] = some (n = 3 ∧ (0 ≤ b0 ∧ b0 < 4294967296) ∧ b1 = 0 ∧ b2 = 0 ∧ b3 = 0 ∧ ((b0.toNat / 2 ^ 23 % 2 ^ 8) = 255 → (b0.toNat % 2 ^ 23) = 0), .many [.v (.agg #[.int .i64 (if (b0.toNat / 2 ^ 23 % 2 ^ 8) = 255 then 2 else 1), .bool (b0.toNat / 2 ^ 31 % 2 == 1), .bool false, .int .i64 (if (b0.toNat / 2 ^ 23 % 2 ^ 8) = 255 then 0 else -149 + max ((((b0.toNat / 2 ^ 23 % 2 ^ 8) : Nat) : Int) - 1) 0), .int .u64 (if (b0.toNat / 2 ^ 23 % 2 ^ 8) = 255 then 0 else w4 (if (b0.toNat / 2 ^ 23 % 2 ^ 8) = 0 then (b0.toNat % 2 ^ 23) else (b0.toNat % 2 ^ 23) ||| 1 * 2 ^ 23 % 2 ^ 256) 0), .int .u64 (if (b0.toNat / 2 ^ 23 % 2 ^ 8) = 255 then 0 else w4 (if (b0.toNat / 2 ^ 23 % 2 ^ 8) = 0 then (b0.toNat % 2 ^ 23) else (b0.toNat % 2 ^ 23) ||| 1 * 2 ^ 23 % 2 ^ 256) 1), .int .u64 (if (b0.toNat / 2 ^ 23 % 2 ^ 8) = 255 then 0 else w4 (if (b0.toNat / 2 ^ 23 % 2 ^ 8) = 0 then (b0.toNat % 2 ^ 23) else (b0.toNat % 2 ^ 23) ||| 1 * 2 ^ 23 % 2 ^ 256) 2), .int .u64 (if (b0.toNat / 2 ^ 23 % 2 ^ 8) = 255 then 0 else w4 (if (b0.toNat / 2 ^ 23 % 2 ^ 8) = 0 then (b0.toNat % 2 ^ 23) else (b0.toNat % 2 ^ 23) ||| 1 * 2 ^ 23 % 2 ^ 256) 3)]), .v (.int .i64 0)]) := rfl
theorem k22_23 : lk G25 23 = some (.body, norm s23) := rfl
theorem k22_35 : lk G25 35 = some (.body, norm s35) := rfl
theorem k22_36 : lk G25 36 = some (.body, norm s36) := rfl
theorem k22_37 : lk G25 37 = some (.body, norm s37) := rfl
theorem k22_38 : lk G25 38 = some (.body, norm s38) := rfl
set_option maxHeartbeats 20000000 in
theorem w22 (n : Int) (b0 b1 b2 b3 : Int) (hp : n = 3 ∧ (0 ≤ b0 ∧ b0 < 4294967296) ∧ b1 = 0 ∧ b2 = 0 ∧ b3 = 0 ∧ ((b0.toNat / 2 ^ 23 % 2 ^ 8) = 255 → (b0.toNat % 2 ^ 23) = 0)) : awp ty G25 (code Try.f22) (retP ty Try.f22.results.toList (.many [.v (.agg #[.int .i64 (if (b0.toNat / 2 ^ 23 % 2 ^ 8) = 255 then 2 else 1), .bool (b0.toNat / 2 ^ 31 % 2 == 1), .bool false, .int .i64 (if (b0.toNat / 2 ^ 23 % 2 ^ 8) = 255 then 0 else -149 + max ((((b0.toNat / 2 ^ 23 % 2 ^ 8) : Nat) : Int) - 1) 0), .int .u64 (if (b0.toNat / 2 ^ 23 % 2 ^ 8) = 255 then 0 else w4 (if (b0.toNat / 2 ^ 23 % 2 ^ 8) = 0 then (b0.toNat % 2 ^ 23) else (b0.toNat % 2 ^ 23) ||| 1 * 2 ^ 23 % 2 ^ 256) 0), .int .u64 (if (b0.toNat / 2 ^ 23 % 2 ^ 8) = 255 then 0 else w4 (if (b0.toNat / 2 ^ 23 % 2 ^ 8) = 0 then (b0.toNat % 2 ^ 23) else (b0.toNat % 2 ^ 23) ||| 1 * 2 ^ 23 % 2 ^ 256) 1), .int .u64 (if (b0.toNat / 2 ^ 23 % 2 ^ 8) = 255 then 0 else w4 (if (b0.toNat / 2 ^ 23 % 2 ^ 8) = 0 then (b0.toNat % 2 ^ 23) else (b0.toNat % 2 ^ 23) ||| 1 * 2 ^ 23 % 2 ^ 256) 2), .int .u64 (if (b0.toNat / 2 ^ 23 % 2 ^ 8) = 255 then 0 else w4 (if (b0.toNat / 2 ^ 23 % 2 ^ 8) = 0 then (b0.toNat % 2 ^ 23) else (b0.toNat % 2 ^ 23) ||| 1 * 2 ^ 23 % 2 ^ 256) 3)]), .v (.int .i64 0)])) (entry 0 [.v (.int .i64 n), .v (.agg #[.int .u64 b0, .int .u64 b1, .int .u64 b2, .int .u64 b3])]) [] := by
  unfold code
  simp only [Try.f22, Option.getD_some]
  obtain ⟨rfl, hb, rfl, rfl, rfl, hN⟩ := hp
  obtain ⟨y, rfl⟩ := Int.eq_ofNat_of_zero_le hb.1
  have f1 : fp 3 = 24 := rfl
  have f2 : fx 3 = 8 := rfl
  have f3 : fe 3 = 127 := rfl
  have gB : decide ((blen y : Int) ≤ 32) = true := by
    have : blen y ≤ 32 := blen_lt.2 (by omega)
    simp only [decide_eq_true_eq]; omega
  obtain ⟨E, hE⟩ : ∃ E, y / 2 ^ 23 % 2 ^ 8 = E := ⟨_, rfl⟩
  obtain ⟨F, hF⟩ : ∃ F, y % 2 ^ 23 = F := ⟨_, rfl⟩
  simp only [Int.toNat_natCast, hE, hF] at hN ⊢
  have hE2 : E < 256 := by omega
  have hF2 : F < 2 ^ 256 := Nat.lt_of_lt_of_le (m := 2 ^ 23) (by omega) (Nat.pow_le_pow_right (by omega) (by omega))
  have w0 := w4_small (E := E) (by omega)
  have hVF := V4_w4 hF2
  have sgn1 : (((y / 2 ^ 31 % 2 : Nat) : Int) == 1) = (y / 2 ^ 31 % 2 == 1) := by rw [Bool.eq_iff_iff]; simp only [beq_iff_eq]; omega
  have hcase : (E = 255 ∧ F = 0) ∨ (E ≠ 255 ∧ E = 0) ∨ (E ≠ 255 ∧ E ≠ 0) := by omega
  rcases hcase with ⟨hA, hZ⟩ | ⟨hA, hZ⟩ | ⟨hA, hZ⟩
  all_goals first
    | (have gE : decide ((E : Int) < 255) = false := by simp only [decide_eq_false_iff_not]; omega)
    | (have gE : decide ((E : Int) < 255) = true := by simp only [decide_eq_true_eq]; omega)
  all_goals first
    | (have gE0 : decide ((E : Int) > 0) = false := by simp only [decide_eq_false_iff_not]; omega)
    | (have gE0 : decide ((E : Int) > 0) = true := by simp only [decide_eq_true_eq]; omega)
  all_goals first
    | (have gF : (w4 F 0 == 0 && (w4 F 1 == 0 && (w4 F 2 == 0 && w4 F 3 == 0))) = true := by rw [hZ]; simp [w4_zero])
    | (have gF : decide ((4 : Int) ≥ 5) = false := rfl)
  all_goals repeat' (first
    | ((first
       | (with_reducible refine ops_k ?_; intro X hX)
       | (with_reducible refine opsN_k ?_; intro X hX)
       | (with_reducible show awp _ _ _ _ (keepL _ _) _)
       | (with_reducible refine hX _ _ _ _ ?_; clear hX X)
       | (with_reducible refine opsD_k ?_; intro X hX)
       | with_reducible refine awp_cond_k ?_
       | (with_reducible refine Brk_i ?_ ?_ <;> intro hb <;> (try simp only [hb]) <;> have hq := hb <;> try simp only [decide_eq_true_eq, decide_eq_false_iff_not, gt_iff_lt, ge_iff_le, Int.not_lt, Int.not_le, beq_iff_eq, beq_eq_false_iff_ne, Bool.not_eq_true', Bool.not_eq_false', Bool.and_eq_true, Bool.or_eq_true, Bool.and_eq_false_imp, Bool.or_eq_false_iff, ne_eq, Classical.not_not] at hq)
       | with_reducible refine retP_ret_i ?_
       | with_reducible refine retP_normal_i ?_
       | (with_reducible (show bindG _ _ _ _ _); simp only [hall])) <;> try simp only [Go.AM.S1, Go.AM.S2, Go.AM.S3, Go.AM.S4, Go.AM.S5, Go.AM.S6, Go.AM.S7, Go.AM.S8, Go.AM.S9, Nat.reduceAdd, Nat.reduceMul, Nat.reduceSub, ↓reduceIte, Nat.reduceEqDiff, Nat.reduceLT, Nat.reduceLeDiff, reduceCtorEq, Int.reduceBEq, Int.reduceBNe, Nat.reduceBEq, Int.reduceEq, Int.reduceToNat, Int.reduceLE, Int.reduceLT, Nat.reduceDiv, Int.reduceAdd, Int.reduceSub, Int.reduceMul, Int.reduceNeg, Int.reduceGT, Int.reduceGE, Nat.reduceMod, k22_23, s23_eq, k22_35, s35_eq, k22_36, s36_eq, k22_37, s37_eq, k22_38, s38_eq, ty_3, ty_4, ty_9, ty_26, ty_27, ty_28, ty_53, ty_58, ty_72, hE, hF, f1, f2, f3, V4_x, gB, w0, IntKind.bits, minLit, Int.reducePow, Nat.pow_zero, Nat.div_one, gE, gE0, gF, sgn1, Int.toNat_one, hVF])
    | (with_reducible refine hX _ _ ?_; clear hX X)
    | with_reducible refine opsD_nil_i ?_
    | (with_reducible refine keysB_i ?_; kernel_rfl)
    | ((with_reducible show clashK _ _ _ = true); kernel_rfl)
    | with_reducible refine ops_nil_i ?_
    | with_reducible refine opsN_nil_i ?_
    | (with_reducible refine hK _ _ ?_; clear hK K)
    | with_reducible refine thenP_normal_i ?_
    | with_reducible refine zzr18 _ _ ?_
    | with_reducible refine zzb0 _ _ ?_
    | with_reducible refine zzsr13 _ _ ?_
    | with_reducible refine zzr13 _ _ ?_
    | with_reducible refine zzr12 _ _ ?_
    | with_reducible refine zzr9 _ _ ?_
    | with_reducible refine zzr8 _ _ ?_
    | with_reducible refine zzr16 _ _ ?_
    | with_reducible refine zzr11 _ _ ?_
    | with_reducible refine zzr7 _ _ ?_
    | with_reducible refine zzr6 _ _ ?_
    | with_reducible refine zzr5 _ _ ?_
    | with_reducible refine zzr4 _ _ ?_
    | with_reducible refine zzsr2 _ _ ?_
    | with_reducible refine zzr3 _ _ ?_
    | with_reducible refine zzr2 _ _ ?_
    | with_reducible refine zzr1 _ _ ?_
    | with_reducible refine zzr0 _ _ ?_
    | (with_reducible refine awp_seq_l (a := .region 18 _ _) [4, 5] ?_; intro Kzzr18 zzr18)
    | (with_reducible refine awp_seq_l (a := .block 0 _) [4, 11] ?_; intro Kzzb0 zzb0)
    | (with_reducible refine awp_seq_l (a := .seq (.region 13 _ _) _) [4, 9, 11] ?_; intro Kzzsr13 zzsr13)
    | (with_reducible refine awp_seq_l (a := .region 13 _ _) [4, 8, 9, 11, 68] ?_; intro Kzzr13 zzr13)
    | (with_reducible refine awp_seq_l (a := .region 12 _ _) [4, 8, 9, 10, 11] ?_; intro Kzzr12 zzr12)
    | (with_reducible refine awp_seq_l (a := .region 9 _ _) [4, 8, 9, 11] ?_; intro Kzzr9 zzr9)
    | (with_reducible refine awp_seq_l (a := .region 8 _ _) [3, 4, 8, 9, 11] ?_; intro Kzzr8 zzr8)
    | (with_reducible refine awp_seq_l (a := .region 16 _ _) [3, 4, 8, 9, 11, 75] ?_; intro Kzzr16 zzr16)
    | (with_reducible refine awp_seq_l (a := .region 11 _ _) [3, 4, 6, 8, 9, 10, 11, 53] ?_; intro Kzzr11 zzr11)
    | (with_reducible refine awp_seq_l (a := .region 7 _ _) [3, 4, 6, 8, 9, 10, 11] ?_; intro Kzzr7 zzr7)
    | (with_reducible refine awp_seq_l (a := .region 6 _ _) [3, 4, 6, 8, 9, 10] ?_; intro Kzzr6 zzr6)
    | (with_reducible refine awp_seq_l (a := .region 5 _ _) [3, 4, 6, 8, 9] ?_; intro Kzzr5 zzr5)
    | (with_reducible refine awp_seq_l (a := .region 4 _ _) [3, 4, 6, 8] ?_; intro Kzzr4 zzr4)
    | (with_reducible refine awp_seq_l (a := .seq (.region 2 _ _) _) [3, 4, 6] ?_; intro Kzzsr2 zzsr2)
    | (with_reducible refine awp_seq_l (a := .region 3 _ _) [4, 5] ?_; intro Kzzr3 zzr3)
    | (with_reducible refine awp_seq_l (a := .region 2 _ _) [3, 4, 6, 19] ?_; intro Kzzr2 zzr2)
    | (with_reducible refine awp_seq_l (a := .region 1 _ _) [3, 4, 6, 7] ?_; intro Kzzr1 zzr1)
    | (with_reducible refine awp_seq_l (a := .region 0 _ _) [0, 3, 4] ?_; intro Kzzr0 zzr0)
    | (with_reducible refine awp_seq_k ?_; intro K hK)
    | (with_reducible refine awp_region_a ?_; intro all hall K hK)
    | (with_reducible refine awp_draw_a (id := 14) ?_ ?_; kernel_rfl; intro all hall K hK)
    | (with_reducible refine awp_draw_n ?_ ?_; kernel_rfl; intro all hall K hK)
    | (with_reducible refine Chk_i ?_ ?_)
    | (with_reducible refine keysC_i ?_; kernel_rfl)
    | (with_reducible first | refine awp_block_i ?_ | refine awp_skip_i ?_ | refine awp_ret_i ?_ | refine awp_exit_i ?_ | refine thenP_ret_i ?_ | refine thenP_exit_i ?_ | refine lpP_ret_i ?_ | refine lpP_exit_i ?_ | refine unrP_succ_i ?_ | refine unrP_ret_i ?_ | refine unrP_exit_i ?_ | refine blockP_normal_i ?_ | refine blockP_ret_i ?_)
    | (with_reducible refine blockP_exit_i ?_; simp only [↓reduceIte, Nat.reduceEqDiff])
    | with_reducible refine lpP_normal_i ?_)
  all_goals (try simp only [inR])
  all_goals first
    | omega
    | exact ⟨w4_lim _ _, w4_lim _ _, w4_lim _ _, w4_lim _ _⟩
    | (simp only [if_pos hA]; done)
    | (simp only [if_neg hA, if_pos hZ]; done)
    | (simp only [if_neg hA, if_neg hZ]; done)
theorem sound_22 : Sound Try.prog 22 .body (norm s22) := by
  refine sound_norm (sound_body Try.func22 (show Try.f22.body = some (code Try.f22) from rfl) (by kernel_rfl) tysOk G25_ok (drawOk_ok (by kernel_rfl) tysOk G25_ok) (by kernel_rfl) fun ds p r hs hp => ?_)
  unfold s22 at hs
  split at hs
  · cases hs; exact ⟨Nat.le_of_ble_eq_true (by kernel_rfl), w22 _ _ _ _ _ hp⟩
  · cases hs
noncomputable def G22 : Gam := (22, .body, norm s22) :: G25
theorem G22_ok : GamOk Try.prog G22 := gamOk_cons sound_22 G25_ok
end Go.Proofs.AMT
