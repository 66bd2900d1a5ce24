/- Part 8 of the proof: own text (FshortestOther, LU, LV, LX, FhexformWrite, LY, Fcaliperlaw11awake, Fcaliperref02Trim, Fcaliperref02Left, Fcaliperref02word, Fcaliperref02Right, Fcaliperref02Less, Fcaliperref05Field, Fcaliperref04Binary, Fcaliperref02Size). -/
import Derived.Lib.ItoaLen
import Derived.Test.YtknejocjkjpfmaaGreatDoorK0
import Derived.Test.YtknejocjkjpfmaaGreatDoorK1
import Derived.Test.YtknejocjkjpfmaaGreatDoorK2
import Derived.Test.YtknejocjkjpfmaaGreatDoorK3
import Derived.Test.YtknejocjkjpfmaaGreatDoorK4
import Derived.Test.YtknejocjkjpfmaaGreatDoorK5
import Derived.Test.YtknejocjkjpfmaaGreatDoorK6
import Derived.Test.YtknejocjkjpfmaaGreatDoorK7
set_option linter.all false
set_option maxRecDepth 20000
namespace Go.Proofs.AMT
open Go.AM Go.AM.LN
attribute [local congr] bindO_congr bindS_congr bindG_congr awpOps_congr aOne_congr awp_congr aCond_congr awpD_congr dOne_congr keysB_congr nOne_congr thenP_congr blockP_congr Chk_congr Brk_congr
noncomputable def s8 : CSpec := fun ds => match ds with
  | [.v (.agg ⟨[.int .i64 cl, .bool sg, .bool si, .int .i64 ex, .int .u64 c0, .int .u64 c1, .int .u64 c2, .int .u64 c3]⟩)] => some ((cl = 2 ∨ cl = 3) ∧ (0 ≤ c0 ∧ c0 < 18446744073709551616) ∧ (0 ≤ c1 ∧ c1 < 18446744073709551616) ∧ (0 ≤ c2 ∧ c2 < 18446744073709551616) ∧ (0 ≤ c3 ∧ c3 < 18446744073709551616), .one (.v (.string (bs (nanT cl sg si (decS (V4 c0 c1 c2 c3)))))))
  | _ => none
theorem s8_eq (cl : Int) (sg : Bool) (si : Bool) (ex : Int) (c0 : Int) (c1 : Int) (c2 : Int) (c3 : Int) : norm s8 [.v (.agg #[.int .i64 cl, .bool sg, .bool si, .int .i64 ex, .int .u64 c0, .int .u64 c1, .int .u64 c2, .int .u64 c3])] = some ((cl = 2 ∨ cl = 3) ∧ (0 ≤ c0 ∧ c0 < 18446744073709551616) ∧ (0 ≤ c1 ∧ c1 < 18446744073709551616) ∧ (0 ≤ c2 ∧ c2 < 18446744073709551616) ∧ (0 ≤ c3 ∧ c3 < 18446744073709551616), .one (.v (.string (bs (nanT cl sg si (decS (V4 c0 c1 c2 c3))))))) := rfl
noncomputable def G8 : Gam := [(24, .body, norm sDigits), (25, .body, norm s25)]
theorem G8_ok : GamOk Tryz.prog G8 := gamOk_cons sound_digits (gamOk_cons sound_25 gamOk_nil)
theorem k8_24 : lk G8 24 = some (.body, norm sDigits) := rfl
theorem k8_25 : lk G8 25 = some (.body, norm s25) := rfl
set_option maxHeartbeats 20000000 in
theorem wk8 (cl : Int) (sg : Bool) (si : Bool) (ex : Int) (c0 : Int) (c1 : Int) (c2 : Int) (c3 : Int) (hp : (cl = 2 ∨ cl = 3) ∧ (0 ≤ c0 ∧ c0 < 18446744073709551616) ∧ (0 ≤ c1 ∧ c1 < 18446744073709551616) ∧ (0 ≤ c2 ∧ c2 < 18446744073709551616) ∧ (0 ≤ c3 ∧ c3 < 18446744073709551616)) : awp ty G8 (code Tryz.f8) (retP ty Tryz.f8.results.toList (.one (.v (.string (bs (nanT cl sg si (decS (V4 c0 c1 c2 c3)))))))) (entry 0 [.v (.agg #[.int .i64 cl, .bool sg, .bool si, .int .i64 ex, .int .u64 c0, .int .u64 c1, .int .u64 c2, .int .u64 c3])]) [] := by
  unfold code
  simp only [Tryz.f8, Option.getD_some]
  have hV : val [c0, c1, c2, c3] = (V4 c0 c1 c2 c3) := rfl
  have l4 := lim4 hp.2.1 hp.2.2.1 hp.2.2.2.1 hp.2.2.2.2
  have hl := dec_len256 (n := (V4 c0 c1 c2 c3)) (V4_lt hp.2.1 hp.2.2.1 hp.2.2.2.1 hp.2.2.2.2)
  all_goals repeat' (first
    | ((first
       | (with_reducible refine ops_k ?_; intro X hX)
       | (with_reducible refine opsN_k ?_; intro X hX)
       | (with_reducible show awp _ _ _ _ (keepL _ _) _)
       | with_reducible refine awp_cond_k ?_
       | (with_reducible refine Brk_i ?_ ?_ <;> intro hb <;> (try simp only [hb]) <;> have hq := hb <;> try simp only [decide_eq_true_eq, decide_eq_false_iff_not, gt_iff_lt, ge_iff_le, Int.not_lt, Int.not_le, beq_iff_eq, beq_eq_false_iff_ne, Bool.not_eq_true', Bool.not_eq_false', Bool.and_eq_true, Bool.or_eq_true, Bool.and_eq_false_imp, Bool.or_eq_false_iff, ne_eq, Classical.not_not] at hq)
       | with_reducible refine retP_ret_i ?_
       | with_reducible refine retP_normal_i ?_
       | (with_reducible (show bindG _ _ _ _ _); simp only [hall])) <;> try simp only [Go.AM.S1, Go.AM.S2, Go.AM.S3, Go.AM.S4, Go.AM.S5, Go.AM.S6, Go.AM.S7, Go.AM.S8, Go.AM.S9, Nat.reduceAdd, Nat.reduceMul, Nat.reduceSub, ↓reduceIte, Nat.reduceEqDiff, Nat.reduceLT, Nat.reduceLeDiff, reduceCtorEq, Int.reduceBEq, Int.reduceBNe, Nat.reduceBEq, Int.reduceEq, Int.reduceToNat, Int.reduceLE, Int.reduceLT, Nat.reduceDiv, Int.reduceAdd, Int.reduceSub, Int.reduceMul, Int.reduceNeg, Int.reduceGT, Int.reduceGE, Nat.reduceMod, k8_24, sDigits_eq, k8_25, s25_eq, ty_3, ty_4, ty_9, ty_22, ty_24, ty_31, ty_40, hV, toInts, bs_data, bare_dec])
    | (with_reducible refine hX _ _ ?_; clear hX X)
    | (with_reducible refine ops_nil_i ?_; try clear hall all)
    | (with_reducible refine opsN_nil_i ?_; try clear hall all)
    | (with_reducible refine hK _ _ ?_; clear hK K)
    | with_reducible refine thenP_normal_i ?_
    | (with_reducible refine zzr2 _ _ ?_; try clear zzr2 Kzzr2)
    | (with_reducible refine zzr1 _ _ ?_; try clear zzr1 Kzzr1)
    | (with_reducible refine zzr0 _ _ ?_; try clear zzr0 Kzzr0)
    | (with_reducible refine awp_seq_l (a := .region 2 _ _) [2] ?_; intro Kzzr2 zzr2)
    | (with_reducible refine awp_seq_l (a := .region 1 _ _) [1, 3] ?_; intro Kzzr1 zzr1)
    | (with_reducible refine awp_seq_l (a := .region 0 _ _) [1] ?_; intro Kzzr0 zzr0)
    | (with_reducible refine awp_seq_k ?_; intro K hK)
    | (with_reducible refine awp_region_a ?_; intro all hall K hK)
    | (with_reducible refine awp_draw_n ?_ ?_; kernel_rfl; intro all hall K hK)
    | (with_reducible refine Chk_i ?_ ?_)
    | (with_reducible refine keysC_i ?_; kernel_rfl)
    | (with_reducible first | refine awp_block_i ?_ | refine awp_skip_i ?_ | refine awp_ret_i ?_ | refine awp_exit_i ?_ | refine thenP_ret_i ?_ | refine thenP_exit_i ?_ | refine lpP_ret_i ?_ | refine lpP_exit_i ?_ | refine unrP_succ_i ?_ | refine unrP_ret_i ?_ | refine unrP_exit_i ?_ | refine blockP_normal_i ?_ | refine blockP_ret_i ?_)
    | (with_reducible refine blockP_exit_i ?_; simp only [↓reduceIte, Nat.reduceEqDiff])
    | with_reducible refine lpP_normal_i ?_)
  all_goals (try clear zzr0; try clear Kzzr0)
  all_goals (try clear zzr1; try clear Kzzr1)
  all_goals (try clear zzr2; try clear Kzzr2)
  all_goals (try simp only [inR])
  all_goals first
    | omega
    | exact ⟨l4, Nat.le_of_ble_eq_true rfl⟩
    | exact ⟨hp.1, by rw [bs_size]; omega⟩
    | skip
theorem sound_8 : Sound Tryz.prog 8 .body (norm s8) := by
  refine sound_norm (sound_body Tryz.func8 (show Tryz.f8.body = some (code Tryz.f8) from rfl) (by kernel_rfl) tysOk G8_ok (drawOk_ok (by kernel_rfl) tysOk G8_ok) (by kernel_rfl) fun ds p r hs hp => ?_)
  unfold s8 at hs
  split at hs
  · cases hs; exact ⟨Nat.le_of_ble_eq_true (by kernel_rfl), wk8 _ _ _ _ _ _ _ _ hp⟩
  · cases hs
end Go.Proofs.AMT
set_option maxRecDepth 20000
namespace Go.AM.LN
open Go Go.Lib
/-! Digits, the lowest first. -/
def lowD (n : Nat) : Nat → List Int
  | 0 => []
  | m + 1 => lowD n m ++ [((48 + n / 10 ^ m % 10 : Nat) : Int)]
def upD (n j : Nat) : Nat → List Int
  | 0 => []
  | i + 1 => upD n j i ++ [((48 + n / 10 ^ (j - 1 - i) % 10 : Nat) : Int)]
theorem lowD_len (n m : Nat) : (lowD n m).length = m := by
  induction m with
  | zero => rfl
  | succ m ih => simp [lowD, ih]
theorem upD_len (n j m : Nat) : (upD n j m).length = m := by
  induction m with
  | zero => rfl
  | succ m ih => simp [upD, ih]
theorem lowD_getD (n m i : Nat) (h : i < m) : (lowD n m).getD i 0 = ((48 + n / 10 ^ i % 10 : Nat) : Int) := by
  induction m with
  | zero => omega
  | succ m ih =>
    simp only [lowD, List.getD_eq_getElem?_getD]
    by_cases hi : i < m
    · rw [List.getElem?_append_left (by rw [lowD_len]; exact hi)]
      have := ih hi
      rwa [List.getD_eq_getElem?_getD] at this
    · have e : i = m := by omega
      subst e
      rw [List.getElem?_append_right (by rw [lowD_len]; omega), lowD_len, Nat.sub_self]
      rfl
theorem strOf_bs (l : List Int) : AM.strOf l = bs (l.map fun n => UInt8.ofNat n.toNat) := by
  have key : ∀ (l : List Int) (r : List UInt8), l.foldl (fun r n => r.push (UInt8.ofNat n.toNat)) (bs r) = bs (r ++ l.map fun n => UInt8.ofNat n.toNat) := by
    intro l
    induction l with
    | nil => intro r; simp
    | cons x l ih =>
      intro r
      have hp : (bs r).push (UInt8.ofNat x.toNat) = bs (r ++ [UInt8.ofNat x.toNat]) := by
        apply ByteArray.ext
        simp [bs, ByteArray.push]
      rw [List.foldl_cons, hp, ih]
      simp
  have := key l []
  rwa [List.nil_append] at this
theorem div_pow10 (n i : Nat) : n / 10 ^ i / 10 = n / 10 ^ (i + 1) := by rw [Nat.div_div_eq_div_mul, ← Nat.pow_succ]
theorem upD_decW (n j : Nat) : ∀ i, i ≤ j → (upD n j i).map (fun n => UInt8.ofNat n.toNat) = decW (n / 10 ^ (j - i)) i := by
  intro i
  induction i with
  | zero => intro _; rfl
  | succ i ih =>
    intro h
    simp only [upD, decW, List.map_append, List.map_cons, List.map_nil, Int.toNat_natCast]
    rw [ih (by omega), div_pow10, show j - (i + 1) + 1 = j - i by omega, show j - (i + 1) = j - 1 - i by omega]
theorem decD_eq (j : Nat) : ∀ n, 10 ^ j ≤ n → n < 10 ^ (j + 1) → decDigits n = decW n (j + 1) := by
  induction j with
  | zero =>
    intro n h1 h2
    have h3 : n < 10 := by simpa using h2
    rw [decD_small h3]
    simp only [decW, List.nil_append]
    rw [Nat.mod_eq_of_lt h3]
  | succ j ih =>
    intro n h1 h2
    have h3 : 10 ≤ n := by
      have := Nat.one_le_pow j 10 (by omega)
      rw [Nat.pow_succ] at h1
      omega
    rw [decD_big h3, ih (n / 10) (by rw [Nat.pow_succ] at h1; omega) (by rw [Nat.pow_succ] at h2; omega)]
    rfl
theorem upD_fin {n j : Nat} (h : n < 10 ^ j) (hj : j = 0 ∨ n / 10 ^ (j - 1) % 10 ≠ 0) : AM.strOf (upD n j j) = bs (decS n) := by
  rw [strOf_bs, upD_decW n j j (Nat.le_refl _), Nat.sub_self, Nat.pow_zero, Nat.div_one]
  cases j with
  | zero =>
    have : n = 0 := by simpa using h
    subst this; rfl
  | succ j =>
    have h1 : n / 10 ^ j % 10 ≠ 0 := by
      rcases hj with hj | hj
      · omega
      · simpa using hj
    have h2 : 10 ^ j ≤ n := by
      apply Classical.byContradiction
      intro hc
      rw [Nat.div_eq_of_lt (by omega)] at h1
      exact h1 rfl
    have h3 := Nat.one_le_pow j 10 (by omega)
    rw [← decD_eq j n h2 h]
    unfold decS
    rw [if_neg (by omega)]
theorem dec_trim {n j : Nat} (h : n < 10 ^ j) (hj : 0 < j) (h0 : n / 10 ^ (j - 1) % 10 = 0) : n < 10 ^ (j - 1) := by
  obtain ⟨m, rfl⟩ : ∃ m, j = m + 1 := ⟨j - 1, by omega⟩
  rw [Nat.add_sub_cancel] at *
  have h1 : n / 10 ^ m < 10 := by
    rw [Nat.div_lt_iff_lt_mul (Nat.pow_pos (by omega)), Nat.mul_comm, ← Nat.pow_succ]; exact h
  have h2 : n / 10 ^ m = 0 := by
    have h4 : n / 10 ^ m % 10 = 0 := h0
    rwa [Nat.mod_eq_of_lt h1] at h4
  rcases (Nat.div_eq_zero_iff).1 h2 with h3 | h3
  · have := Nat.one_le_pow m 10 (by omega); omega
  · exact h3
theorem dec_digit {n k i : Nat} (hi : i < 18) : n / 10 ^ (18 * k) % 10 ^ 18 / 10 ^ i % 10 = n / 10 ^ (18 * k + i) % 10 := by
  have e : (10 : Nat) ^ 18 = 10 ^ i * 10 ^ (18 - i) := by rw [← Nat.pow_add]; congr 1; omega
  have e2 : (10 : Nat) ^ (18 - i) = 10 * 10 ^ (17 - i) := by rw [Nat.mul_comm, ← Nat.pow_succ]; congr 1; omega
  rw [e, Nat.mod_mul_right_div_self, Nat.div_div_eq_div_mul, ← Nat.pow_add, e2, Nat.mod_mul_right_mod]
theorem dec_next (n k : Nat) : n / 10 ^ (18 * k) / 1000000000000000000 = n / 10 ^ (18 * (k + 1)) := by
  rw [show (1000000000000000000 : Nat) = 10 ^ 18 by decide, Nat.div_div_eq_div_mul, ← Nat.pow_add]
  congr 2
theorem dec_few {n k : Nat} (h : n < 2 ^ 256) (h0 : n / 10 ^ (18 * k) ≠ 0) : k ≤ 4 := by
  apply Classical.byContradiction
  intro hc
  have h1 : (10 : Nat) ^ (18 * 5) ≤ 10 ^ (18 * k) := Nat.pow_le_pow_right (by omega) (by omega)
  have h2 : (2 : Nat) ^ 256 ≤ 10 ^ (18 * 5) := by decide
  exact h0 (Nat.div_eq_of_lt (by omega))
theorem dec_rest {n k : Nat} (h0 : n / 10 ^ (18 * k) = 0) : n < 10 ^ (18 * k) := by
  rcases (Nat.div_eq_zero_iff).1 h0 with h3 | h3
  · have := Nat.one_le_pow (18 * k) 10 (by omega); omega
  · exact h3
theorem len_pos {x : Nat} (h : 0 < ((limbs x).length : Int)) : x ≠ 0 := fun hc => by
  have := (len_zero (x := x)).2 hc
  omega
theorem len_npos {x : Nat} (h : ((limbs x).length : Int) ≤ 0) : x = 0 := (len_zero (x := x)).1 (by omega)
theorem trim_dig {N m j : Nat} (h0 : 0 < (j : Int)) (hj : j ≤ m) : (lowD N m).getD ((j : Int) - 1).toNat 0 = ((48 + N / 10 ^ (j - 1) % 10 : Nat) : Int) := by
  rw [show ((j : Int) - 1).toNat = j - 1 by omega]
  exact lowD_getD _ _ _ (by omega)
theorem trim_no {N m j : Nat} (h0 : 0 < (j : Int)) (hj : j ≤ m) (h : ¬ (lowD N m).getD ((j : Int) - 1).toNat 0 = 48) : N / 10 ^ (j - 1) % 10 ≠ 0 := fun hc => h (by rw [trim_dig h0 hj, hc]; rfl)
theorem trim_yes {N m j : Nat} (h0 : 0 < (j : Int)) (hj : j ≤ m) (h : (lowD N m).getD ((j : Int) - 1).toNat 0 = 48) : N / 10 ^ (j - 1) % 10 = 0 := by
  rw [trim_dig h0 hj] at h
  generalize N / 10 ^ (j - 1) % 10 = d at *
  omega
theorem up_dig {N m j y : Nat} (hy : (y : Int) < (j : Int)) (hj : j ≤ m) : upD N j y ++ [(lowD N m).getD ((j : Int) - 1 - (y : Int)).toNat 0] = upD N j (y + 1) := by
  rw [show ((j : Int) - 1 - (y : Int)).toNat = j - 1 - y by omega, lowD_getD _ _ _ (by omega)]
  rfl
theorem low_dig {N s z : Nat} (hz : (z : Int) < 18) : lowD N (18 * s + z) ++ [((48 + N / 10 ^ (18 * s) % 10 ^ 18 / 10 ^ z % 10 : Nat) : Int)] = lowD N (18 * s + (z + 1)) := by
  rw [dec_digit (by omega)]; rfl
theorem dec_less {N s : Nat} (h : N / 10 ^ (18 * s) ≠ 0) : N / 10 ^ (18 * (s + 1)) < N / 10 ^ (18 * s) := by
  rw [← dec_next]
  exact Nat.div_lt_self (Nat.pos_of_ne_zero h) (by omega)
theorem dec_bd (A z : Nat) : 0 ≤ ((A % 10 ^ 18 / 10 ^ z / 10 : Nat) : Int) ∧ ((A % 10 ^ 18 / 10 ^ z / 10 : Nat) : Int) ≤ 18446744073709551615 := by
  have h1 := Nat.mod_lt A (show 0 < 10 ^ 18 by decide)
  have h2 := Nat.div_le_self (A % 10 ^ 18) (10 ^ z)
  have h3 := Nat.div_le_self (A % 10 ^ 18 / 10 ^ z) 10
  generalize A % 10 ^ 18 / 10 ^ z / 10 = d at *
  have h4 : (10 : Nat) ^ 18 < 18446744073709551615 := by decide
  omega
theorem dec_word (A : Nat) : (limbs (A % 1000000000000000000)).getD 0 0 = ((A % 10 ^ 18 / 10 ^ 0 : Nat) : Int) := by
  rw [limbs_getD0, Nat.pow_zero, Nat.div_one]
  congr 1
  rw [show (10 : Nat) ^ 18 = 1000000000000000000 by decide]
  omega
theorem num_ok {x : Nat} (h : x < 9223372036854775808) : (lim (limbs x) ∧ (limbs x).length ≤ 1000) ∧ x < 9223372036854775808 :=
  ⟨⟨lim_limbs _, Nat.le_trans (len_le_of (k := 1) (by omega)) (by omega)⟩, h⟩
/-! Single characters. -/
theorem enc_small {n : Int} (h : 0 ≤ n ∧ n < 128) : Utf8.encode n = bs [UInt8.ofNat n.toNat] := by
  obtain ⟨m, rfl⟩ := Int.eq_ofNat_of_zero_le h.1
  have hm : m < 128 := by omega
  have hv : Utf8.valid (m : Int) = true := by
    unfold Utf8.valid
    simp
    omega
  unfold Utf8.encode
  simp only [Int.ofNat_eq_natCast, hv, if_true, Int.toNat_natCast]
  rw [if_pos (by omega)]
  rfl
end Go.AM.LN
set_option maxRecDepth 20000
namespace Go.AM.LN
open Go Go.Lib
/-! Hexadecimal digits of a fraction. -/
def hexL : List UInt8 := [48, 49, 50, 51, 52, 53, 54, 55, 56, 57, 97, 98, 99, 100, 101, 102]
def hexc (d : Nat) : UInt8 := hexL.getD d 0
theorem hexc_lt (d : Nat) : (hexc d).toNat < 128 := by
  by_cases h : d < 16
  · have : d = 0 ∨ d = 1 ∨ d = 2 ∨ d = 3 ∨ d = 4 ∨ d = 5 ∨ d = 6 ∨ d = 7 ∨ d = 8 ∨ d = 9 ∨ d = 10 ∨ d = 11 ∨ d = 12 ∨ d = 13 ∨ d = 14 ∨ d = 15 := by omega
    rcases this with rfl | rfl | rfl | rfl | rfl | rfl | rfl | rfl | rfl | rfl | rfl | rfl | rfl | rfl | rfl | rfl <;> decide
  · have : hexc d = 0 := by
      unfold hexc
      rw [List.getD_eq_getElem?_getD, List.getElem?_eq_none (by simp [hexL]; omega)]
      rfl
    rw [this]; decide
theorem hexc_zero {d : Nat} (h : d < 16) : hexc d = 48 ↔ d = 0 := by
  have : d = 0 ∨ d = 1 ∨ d = 2 ∨ d = 3 ∨ d = 4 ∨ d = 5 ∨ d = 6 ∨ d = 7 ∨ d = 8 ∨ d = 9 ∨ d = 10 ∨ d = 11 ∨ d = 12 ∨ d = 13 ∨ d = 14 ∨ d = 15 := by omega
  rcases this with rfl | rfl | rfl | rfl | rfl | rfl | rfl | rfl | rfl | rfl | rfl | rfl | rfl | rfl | rfl | rfl <;> decide
theorem hex_enc (d : Int) : Utf8.encode (AM.bt (bs hexL) d) = bs [hexc d.toNat] := by
  rw [bt_bs, enc_small ⟨by omega, by have := hexc_lt d.toNat; unfold hexc at this; omega⟩]
  rw [Int.toNat_natCast, UInt8.ofNat_toNat]
  rfl
/-- The digits, the highest first, of a fraction of 256 bits. -/
def hexD (R i : Nat) : Nat := R * 16 ^ i / 2 ^ 252 % 16
def hexU (R : Nat) : Nat → List UInt8
  | 0 => []
  | k + 1 => hexU R k ++ [hexc (hexD R k)]
theorem hexU_len (R k : Nat) : (hexU R k).length = k := by
  induction k with
  | zero => rfl
  | succ k ih => simp [hexU, ih]
theorem hexD_lt (R i : Nat) : hexD R i < 16 := Nat.mod_lt _ (by decide)
theorem hexD_rest (R i : Nat) : R * 16 ^ i % 2 ^ 256 / 2 ^ 252 = hexD R i := by
  unfold hexD
  generalize R * 16 ^ i = x
  rw [show (2 : Nat) ^ 256 = 2 ^ 252 * 16 by decide, Nat.mod_mul_right_div_self]
theorem hex_next (R i : Nat) : R * 16 ^ i % 2 ^ 256 * 2 ^ 4 % 2 ^ 256 = R * 16 ^ (i + 1) % 2 ^ 256 := by
  rw [Nat.mod_mul_mod, Nat.mul_assoc, show (2 : Nat) ^ 4 = 16 by decide, ← Nat.pow_succ]
theorem hex_all (R i : Nat) (h : R * 16 ^ i % 2 ^ 256 ≠ 0) : i < 64 := by
  apply Classical.byContradiction
  intro hc
  apply h
  have e : (16 : Nat) ^ i = 2 ^ 256 * 16 ^ (i - 64) := by
    rw [show (2 : Nat) ^ 256 = 16 ^ 64 by decide, ← Nat.pow_add]; congr 1; omega
  rw [e, Nat.mul_comm, Nat.mul_assoc, Nat.mul_mod_right]
def HexJ (R j : Nat) : Prop := R * 16 ^ j % 2 ^ 256 = 0 ∧ (j = 0 ∨ hexD R (j - 1) ≠ 0)
theorem hex_gone {R j i : Nat} (h : R * 16 ^ j % 2 ^ 256 = 0) (hi : j ≤ i) : hexD R i = 0 := by
  have e : R * 16 ^ i % 2 ^ 256 = 0 := by
    have e1 : (16 : Nat) ^ i = 16 ^ j * 16 ^ (i - j) := by rw [← Nat.pow_add]; congr 1; omega
    rw [e1, ← Nat.mul_assoc, Nat.mul_mod, h, Nat.zero_mul, Nat.zero_mod]
  rw [← hexD_rest, e]
theorem HexJ_one {R i j : Nat} (hi : HexJ R i) (hj : HexJ R j) : i = j := by
  have key : ∀ {i j : Nat}, HexJ R i → HexJ R j → ¬ i < j := fun {i j} hi hj h => by
    rcases hj.2 with h0 | h0
    · omega
    · exact h0 (hex_gone hi.1 (by omega))
  have h1 := key hi hj
  have h2 := key hj hi
  omega
noncomputable def hexJ (R : Nat) : Nat := open Classical in if h : ∃ j, HexJ R j then h.choose else 0
theorem hexJ_eq {R j : Nat} (h : HexJ R j) : hexJ R = j := by
  unfold hexJ
  rw [dif_pos ⟨j, h⟩]
  exact HexJ_one (Exists.choose_spec (⟨j, h⟩ : ∃ j, HexJ R j)) h
/-- The program's stop. -/
theorem hex_stop {R k : Nat} (h : R * 16 ^ k % 2 ^ 256 = 0) (h2 : k = 0 ∨ R * 16 ^ (k - 1) % 2 ^ 256 ≠ 0) : HexJ R k := by
  refine ⟨h, ?_⟩
  rcases h2 with h2 | h2
  · exact .inl h2
  · refine .inr fun h3 => h2 ?_
    cases k with
    | zero => rw [Nat.zero_sub]; exact h
    | succ k =>
      rw [Nat.add_sub_cancel] at *
      have h4 := hex_next R k
      rw [h] at h4
      rw [← hexD_rest] at h3
      generalize R * 16 ^ k % 2 ^ 256 = x at *
      omega
theorem shift_eq {F a b c d : Nat} (h : a + d = c + b) : F * 2 ^ a / 2 ^ b = F * 2 ^ c / 2 ^ d := by
  have key : ∀ (a b e : Nat), F * 2 ^ a / 2 ^ b = F * 2 ^ (a + e) / 2 ^ (b + e) := fun a b e => by
    rw [Nat.pow_add, Nat.pow_add, ← Nat.mul_assoc, Nat.mul_div_mul_right _ _ (Nat.pow_pos (by decide))]
  rcases Nat.le_total a c with hc | hc
  · rw [key a b (c - a), show a + (c - a) = c by omega, show b + (c - a) = d by omega]
  · rw [key c d (a - c), show c + (a - c) = a by omega, show d + (a - c) = b by omega]
/-- The reference's digits. -/
theorem hex_ref {F n cnt i : Nat} (hn : 1 ≤ n ∧ n ≤ 257) (hc : n - 1 ≤ 4 * cnt) (hi : i < cnt) :
    F * 2 ^ (4 * cnt - (n - 1)) / 2 ^ (4 * (cnt - 1 - i)) % 16 = hexD (F * 2 ^ (257 - n)) i := by
  unfold hexD
  rw [Nat.mul_assoc, show (16 : Nat) ^ i = 2 ^ (4 * i) by rw [Nat.pow_mul], ← Nat.pow_add, shift_eq (F := F) (a := 4 * cnt - (n - 1)) (b := 4 * (cnt - 1 - i)) (c := 257 - n + 4 * i) (d := 252) (by omega)]
theorem hex_count {F n cnt : Nat} (hn : 1 ≤ n ∧ n ≤ 257) (hc : n - 1 ≤ 4 * cnt) : F * 2 ^ (257 - n) * 16 ^ cnt % 2 ^ 256 = 0 := by
  rw [Nat.mul_assoc, show (16 : Nat) ^ cnt = 2 ^ (4 * cnt) by rw [Nat.pow_mul], ← Nat.pow_add, show 257 - n + 4 * cnt = 256 + (257 - n + 4 * cnt - 256) by omega, Nat.pow_add, Nat.mul_comm, Nat.mul_assoc, Nat.mul_mod_right]
theorem hex_trim {R j : Nat} (h : R * 16 ^ (j + 1) % 2 ^ 256 = 0) (h0 : hexD R j = 0) : R * 16 ^ j % 2 ^ 256 = 0 := by
  have h4 := hex_next R j
  rw [h] at h4
  rw [← hexD_rest] at h0
  generalize R * 16 ^ j % 2 ^ 256 = x at *
  omega
/-! The text of a number. -/
noncomputable def hexT (sg : Bool) (C : Nat) (ex : Int) : List UInt8 :=
  (if sg then [45, 48, 120] else [48, 120]) ++ if C = 0 then [48, 112, 43, 48] else
    [49] ++ (let H := hexU (C * 2 ^ (257 - blen C) % 2 ^ 256) (hexJ (C * 2 ^ (257 - blen C) % 2 ^ 256)); if H = [] then [] else 46 :: H) ++ [112] ++
    (if 0 ≤ ex + (blen C : Int) - 1 then [43] else []) ++ itoa (ex + (blen C : Int) - 1)
noncomputable def hexA (cl : Int) (sg si : Bool) (C : Nat) (ex : Int) : List UInt8 := if cl = 1 then hexT sg C ex else nanT cl sg si (decS C)
end Go.AM.LN
set_option maxRecDepth 20000
namespace Go.AM.LN
open Go Go.Lib
theorem dC_of {n : Int} {V : Nat} (h : okB n V = true) : dC n V = 1 ∨ dC n V = 2 ∨ dC n V = 3 := by
  unfold dC uC
  rw [if_pos h]
  split
  · exact .inl rfl
  · split
    · exact .inr (.inl rfl)
    · exact .inr (.inr rfl)
theorem dV_lt {n : Int} {V : Nat} (h : okB n V = true) : dV n V < 2 ^ 256 := by
  obtain ⟨hn, hb⟩ := okB_in h
  have hF := uF_lt hn V
  unfold dV uV
  rw [if_pos h]
  split
  · split
    · exact hF
    · exact or_lt hF (Nat.mod_lt _ (Nat.pow_pos (by decide)))
  · split
    · exact Nat.pow_pos (by decide)
    · exact Nat.lt_of_le_of_lt (Nat.mod_le _ _) hF
theorem dX_of {n : Int} {V : Nat} (h : okB n V = true) : -100000 ≤ dX n V ∧ dX n V ≤ 100000 := by
  obtain ⟨hn, hb⟩ := okB_in h
  obtain ⟨F1, F2, F3, F4, F5, F6, F7, F8, F9, F10, F11⟩ := bfmt hn
  have hE := uE_lt hn V
  unfold dX uX
  rw [if_pos h]
  split <;> omega
theorem bl256 {C : Nat} (h : C < 2 ^ 256) : blen C ≤ 256 := blen_lt.2 h
theorem decD_digit (n : Nat) : ∃ x r, decDigits n = x :: r ∧ x ≠ 45 := by
  induction n using Nat.strongRecOn with
  | ind n ih =>
    by_cases h10 : n < 10
    · refine ⟨UInt8.ofNat (48 + n), [], decD_small h10, ?_⟩
      have : n = 0 ∨ n = 1 ∨ n = 2 ∨ n = 3 ∨ n = 4 ∨ n = 5 ∨ n = 6 ∨ n = 7 ∨ n = 8 ∨ n = 9 := by omega
      rcases this with rfl | rfl | rfl | rfl | rfl | rfl | rfl | rfl | rfl | rfl <;> decide
    · obtain ⟨x, r, h1, h2⟩ := ih (n / 10) (by omega)
      exact ⟨x, r ++ [UInt8.ofNat (48 + n % 10)], by rw [decD_big (by omega), h1]; rfl, h2⟩
theorem itoaLen (e : Int) (h0 : -9223372036854775808 ≤ e) (h1 : e ≤ 9223372036854775807) : (itoa e).length ≤ 21 := itoa_length_le e h0 h1
theorem itoa_head (e : Int) : ∃ x r, itoa e = x :: r ∧ (x = 45 ↔ e < 0) := by
  by_cases h : e < 0
  · refine ⟨45, decDigits e.natAbs, ?_, by simp [h]⟩
    unfold itoa; rw [if_pos h]
  · have h2 : itoa e = decDigits e.toNat := by unfold itoa; rw [if_neg h]
    obtain ⟨x, r, h3, h4⟩ := decD_digit e.toNat
    exact ⟨x, r, by rw [h2, h3], ⟨fun hx => absurd hx h4, fun hx => absurd hx h⟩⟩
theorem hex_V4 (R k : Nat) : V4 (w4 (R * 16 ^ k % 2 ^ 256) 0) (w4 (R * 16 ^ k % 2 ^ 256) 1) (w4 (R * 16 ^ k % 2 ^ 256) 2) (w4 (R * 16 ^ k % 2 ^ 256) 3) = R * 16 ^ k % 2 ^ 256 := V4_w4 (Nat.mod_lt _ (Nat.pow_pos (by decide)))
theorem hex_V0 (R k : Nat) : (w4 (R * 16 ^ k % 2 ^ 256) 0 == 0 && (w4 (R * 16 ^ k % 2 ^ 256) 1 == 0 && (w4 (R * 16 ^ k % 2 ^ 256) 2 == 0 && w4 (R * 16 ^ k % 2 ^ 256) 3 == 0))) = decide (R * 16 ^ k % 2 ^ 256 = 0) := by
  rw [V4_zero (w4_lim _ _).1 (w4_lim _ _).1 (w4_lim _ _).1 (w4_lim _ _).1, hex_V4]
theorem hex_dig (R k : Nat) : w4 (R * 16 ^ k % 2 ^ 256) 3 / 2 ^ 60 = (hexD R k : Int) := by
  rw [← hexD_rest]
  have h : R * 16 ^ k % 2 ^ 256 < 2 ^ 256 := Nat.mod_lt _ (Nat.pow_pos (by decide))
  generalize R * 16 ^ k % 2 ^ 256 = x at *
  unfold w4
  have e : x / 2 ^ (64 * 3) % 18446744073709551616 / 2 ^ 60 = x / 2 ^ 252 := by
    rw [show 64 * 3 = 192 by decide, Nat.mod_eq_of_lt (by omega), Nat.div_div_eq_div_mul, ← Nat.pow_add]
  rw [← e, Int.natCast_ediv]
  rfl
theorem hexT_eq {sg : Bool} {C L R k : Nat} {ex : Int} {hdl : List UInt8} (hC : C ≠ 0) (hL : blen C = L) (hR : C * 2 ^ (257 - L) % 2 ^ 256 = R) (hk : HexJ R k) (hh : hdl = if sg then [45, 48, 120] else [48, 120]) :
    hexT sg C ex = hdl ++ ([49] ++ ((if hexU R k = [] then [] else 46 :: hexU R k) ++ ([112] ++ ((if 0 ≤ ex + (L : Int) - 1 then [43] else []) ++ itoa (ex + (L : Int) - 1))))) := by
  unfold hexT
  rw [if_neg hC, hL, hR, hexJ_eq hk, hh]
  simp only [List.append_assoc]
theorem hex_enc' (d : Nat) : Utf8.encode (AM.bt (bs [48, 49, 50, 51, 52, 53, 54, 55, 56, 57, 97, 98, 99, 100, 101, 102]) (d : Int)) = bs [hexc d] := hex_enc d
theorem x45 {x : UInt8} {e : Int} (h : x = 45 ↔ e < 0) : ((x.toNat : Int) == 45) = decide (e < 0) := by
  rw [Bool.eq_iff_iff, beq_iff_eq, decide_eq_true_eq, ← h]
  constructor
  · intro h1
    exact UInt8.toNat_inj.1 (by have : (45 : UInt8).toNat = 45 := rfl; omega)
  · rintro rfl; rfl
theorem hexR_eq {C L : Nat} (h : 1 ≤ L ∧ L ≤ 257) : C % 2 ^ (L - 1) * 2 ^ (257 - L) = C * 2 ^ (257 - L) % 2 ^ 256 := by
  rw [show (2 : Nat) ^ 256 = 2 ^ (L - 1) * 2 ^ (257 - L) by rw [← Nat.pow_add]; congr 1; omega, Nat.mul_mod_mul_right]
theorem hexU_last {R j : Nat} (h : 0 < j) : AM.bt (bs (hexU R j)) ((j : Int) - 1) = ((hexc (hexD R (j - 1))).toNat : Int) := by
  obtain ⟨m, rfl⟩ : ∃ m, j = m + 1 := ⟨j - 1, by omega⟩
  rw [bt_bs, show (((m + 1 : Nat) : Int) - 1).toNat = m by omega, Nat.add_sub_cancel]
  simp only [hexU, List.getD_eq_getElem?_getD]
  rw [List.getElem?_append_right (by rw [hexU_len]; exact Nat.le_refl _), hexU_len, Nat.sub_self]
  rfl
theorem hexU_cut {R j : Nat} (h : 0 < j) : (bs (hexU R j)).extract 0 ((j : Int) - 1).toNat = bs (hexU R (j - 1)) := by
  obtain ⟨m, rfl⟩ : ∃ m, j = m + 1 := ⟨j - 1, by omega⟩
  rw [bs_extract, show (((m + 1 : Nat) : Int) - 1).toNat = m by omega, Nat.add_sub_cancel, List.drop_zero, Nat.sub_zero]
  simp only [hexU]
  rw [List.take_left' (hexU_len R m)]
theorem hexc_no {R j : Nat} (h : ¬ ((hexc (hexD R j)).toNat : Int) = 48) : hexD R j ≠ 0 := fun hc => h (by rw [hc]; rfl)
theorem hexc_yes {R j : Nat} (h : ((hexc (hexD R j)).toNat : Int) = 48) : hexD R j = 0 :=
  (hexc_zero (hexD_lt R j)).1 (UInt8.toNat_inj.1 (by have : (48 : UInt8).toNat = 48 := rfl; omega))
theorem hexG_lt {C L cnt : Nat} (hc : L - 1 ≤ 4 * cnt) (h64 : cnt ≤ 64) : C % 2 ^ (L - 1) * 2 ^ (4 * cnt - (L - 1)) < 2 ^ 256 := by
  have h1 : C % 2 ^ (L - 1) < 2 ^ (L - 1) := Nat.mod_lt _ (Nat.pow_pos (by decide))
  have h2 : C % 2 ^ (L - 1) * 2 ^ (4 * cnt - (L - 1)) < 2 ^ (L - 1) * 2 ^ (4 * cnt - (L - 1)) := Nat.mul_lt_mul_of_pos_right h1 (Nat.pow_pos (by decide))
  rw [← Nat.pow_add] at h2
  exact Nat.lt_of_lt_of_le h2 (Nat.pow_le_pow_right (by decide) (by omega))
theorem hex_trim2 {R j : Nat} (h0 : 0 < j) (h : R * 16 ^ j % 2 ^ 256 = 0) (hd : hexD R (j - 1) = 0) : R * 16 ^ (j - 1) % 2 ^ 256 = 0 := by
  obtain ⟨m, rfl⟩ : ∃ m, j = m + 1 := ⟨j - 1, by omega⟩
  exact hex_trim h hd
theorem hexJ_of {R j : Nat} (h : R * 16 ^ j % 2 ^ 256 = 0) (h2 : (j : Int) ≤ 0 ∨ (0 < (j : Int) ∧ ¬ AM.bt (bs (hexU R j)) ((j : Int) - 1) = 48)) : HexJ R j := by
  refine ⟨h, ?_⟩
  rcases h2 with h2 | ⟨h3, h2⟩
  · exact .inl (by omega)
  · rw [hexU_last (by omega)] at h2
    exact .inr (hexc_no h2)
theorem hexG_dig {C L cnt R G : Nat} (hL : 1 ≤ L ∧ L ≤ 256) (hc : (L + 2) / 4 = cnt) (hR : C * 2 ^ (257 - L) % 2 ^ 256 = R) (hG : C % 2 ^ (L - 1) * 2 ^ (4 * cnt - (L - 1)) = G) :
    (∀ i : Nat, (i : Int) < (cnt : Int) → G / 2 ^ (4 * (cnt - 1 - i)) % 16 = hexD R i) ∧ R * 16 ^ cnt % 2 ^ 256 = 0 ∧ G < 2 ^ 256 := by
  have h1 : L - 1 ≤ 4 * cnt := by omega
  have h2 := hexR_eq (C := C) (L := L) ⟨hL.1, by omega⟩
  rw [hR] at h2
  refine ⟨fun i hi => ?_, ?_, ?_⟩
  · rw [← hG, hex_ref ⟨hL.1, by omega⟩ h1 (by omega), h2]
  · rw [← h2]; exact hex_count ⟨hL.1, by omega⟩ h1
  · rw [← hG]; exact hexG_lt h1 (by omega)
end Go.AM.LN
set_option maxRecDepth 20000
namespace Go.Proofs.AMT
open Go.AM Go.AM.LN
attribute [local congr] bindO_congr bindS_congr bindG_congr awpOps_congr aOne_congr awp_congr aCond_congr awpD_congr dOne_congr keysB_congr nOne_congr thenP_congr blockP_congr Chk_congr Brk_congr
noncomputable def s5 : CSpec := fun ds => match ds with
  | [.v (.int .i64 n), .v (.agg ⟨[.int .u64 b0, .int .u64 b1, .int .u64 b2, .int .u64 b3]⟩)] => some ((0 ≤ b0 ∧ b0 < 18446744073709551616) ∧ (0 ≤ b1 ∧ b1 < 18446744073709551616) ∧ (0 ≤ b2 ∧ b2 < 18446744073709551616) ∧ (0 ≤ b3 ∧ b3 < 18446744073709551616), .many [.v (.string (bs (if okB n (V4 b0 b1 b2 b3) then hexA (dC n (V4 b0 b1 b2 b3)) (dS n (V4 b0 b1 b2 b3)) (dQ n (V4 b0 b1 b2 b3)) (dV n (V4 b0 b1 b2 b3)) (dX n (V4 b0 b1 b2 b3)) else []))), .v (.int .i64 (if okB n (V4 b0 b1 b2 b3) then 0 else 1))])
  | _ => none
theorem s5_eq (n : Int) (b0 b1 b2 b3 : Int) : norm s5 [.v (.int .i64 n), .v (.agg #[.int .u64 b0, .int .u64 b1, .int .u64 b2, .int .u64 b3])] = some ((0 ≤ b0 ∧ b0 < 18446744073709551616) ∧ (0 ≤ b1 ∧ b1 < 18446744073709551616) ∧ (0 ≤ b2 ∧ b2 < 18446744073709551616) ∧ (0 ≤ b3 ∧ b3 < 18446744073709551616), .many [.v (.string (bs (if okB n (V4 b0 b1 b2 b3) then hexA (dC n (V4 b0 b1 b2 b3)) (dS n (V4 b0 b1 b2 b3)) (dQ n (V4 b0 b1 b2 b3)) (dV n (V4 b0 b1 b2 b3)) (dX n (V4 b0 b1 b2 b3)) else []))), .v (.int .i64 (if okB n (V4 b0 b1 b2 b3) then 0 else 1))]) := rfl
noncomputable def G5 : Gam := [(7, .body, norm s7), (8, .body, norm s8), (9, .body, norm s9), (10, .body, norm s10), (11, .body, norm sItoa)]
theorem G5_ok : GamOk Tryz.prog G5 := gamOk_cons sound_7 (gamOk_cons sound_8 (gamOk_cons sound_9 (gamOk_cons sound_10 (gamOk_cons sound_itoa gamOk_nil))))
theorem k5_7 : lk G5 7 = some (.body, norm s7) := rfl
theorem k5_8 : lk G5 8 = some (.body, norm s8) := rfl
theorem k5_9 : lk G5 9 = some (.body, norm s9) := rfl
theorem k5_10 : lk G5 10 = some (.body, norm s10) := rfl
theorem k5_11 : lk G5 11 = some (.body, norm sItoa) := rfl
set_option maxHeartbeats 20000000 in
theorem wk5 (n : Int) (b0 b1 b2 b3 : Int) (hp : (0 ≤ b0 ∧ b0 < 18446744073709551616) ∧ (0 ≤ b1 ∧ b1 < 18446744073709551616) ∧ (0 ≤ b2 ∧ b2 < 18446744073709551616) ∧ (0 ≤ b3 ∧ b3 < 18446744073709551616)) : awp ty G5 (code Tryz.f5) (retP ty Tryz.f5.results.toList (.many [.v (.string (bs (if okB n (V4 b0 b1 b2 b3) then hexA (dC n (V4 b0 b1 b2 b3)) (dS n (V4 b0 b1 b2 b3)) (dQ n (V4 b0 b1 b2 b3)) (dV n (V4 b0 b1 b2 b3)) (dX n (V4 b0 b1 b2 b3)) else []))), .v (.int .i64 (if okB n (V4 b0 b1 b2 b3) then 0 else 1))])) (entry 0 [.v (.int .i64 n), .v (.agg #[.int .u64 b0, .int .u64 b1, .int .u64 b2, .int .u64 b3])]) [] := by
  unfold code
  simp only [Tryz.f5, Option.getD_some]
  rcases Bool.eq_false_or_eq_true (okB n (V4 b0 b1 b2 b3)) with hO | hO
  case' inr =>
    have e1 : decide ((4 : Int) ≥ 5) = false := rfl
    have e2 : decide ((4 : Int) ≥ 5) = false := rfl
    have e3 : decide ((4 : Int) ≥ 5) = false := rfl
    have e4 : decide ((4 : Int) ≥ 5) = false := rfl
    have e5 : decide ((4 : Int) ≥ 5) = false := rfl
    have hVC : decide ((4 : Int) ≥ 5) = false := rfl
    have hL : decide ((4 : Int) ≥ 5) = false := rfl
    have hR : decide ((4 : Int) ≥ 5) = false := rfl
    have eN : decide ((4 : Int) ≥ 5) = false := rfl
    have hV : decide ((4 : Int) ≥ 5) = false := rfl
    have g1 : decide ((4 : Int) ≥ 5) = false := rfl
    have g2 : decide ((4 : Int) ≥ 5) = false := rfl
    have t4 : decide ((4 : Int) ≥ 5) = false := rfl
    have hV4 : decide ((4 : Int) ≥ 5) = false := rfl
    have hzk : decide ((4 : Int) ≥ 5) = false := rfl
    have hnx : decide ((4 : Int) ≥ 5) = false := rfl
    have hhd : decide ((4 : Int) ≥ 5) = false := rfl
    have hdg : decide ((4 : Int) ≥ 5) = false := rfl
    have hT : decide ((4 : Int) ≥ 5) = false := rfl
    have hb0 : decide ((4 : Int) ≥ 5) = false := rfl
    have h45 : decide ((4 : Int) ≥ 5) = false := rfl
    have m60 : decide ((4 : Int) ≥ 5) = false := rfl
    have hen : decide ((4 : Int) ≥ 5) = false := rfl
    rw [show dC n (V4 b0 b1 b2 b3) = 0 by simp [dC, hO], show dS n (V4 b0 b1 b2 b3) = false by simp [dS, hO], show dQ n (V4 b0 b1 b2 b3) = false by simp [dQ, hO], show dX n (V4 b0 b1 b2 b3) = 0 by simp [dX, hO], show dV n (V4 b0 b1 b2 b3) = 0 by simp [dV, hO]]
  case' inl =>
    have hCl := dV_lt hO
    have hcl := dC_of hO
    have hxl := dX_of hO
    obtain ⟨cl, e1⟩ : ∃ x, dC n (V4 b0 b1 b2 b3) = x := ⟨_, rfl⟩
    obtain ⟨sg, e2⟩ : ∃ x, dS n (V4 b0 b1 b2 b3) = x := ⟨_, rfl⟩
    obtain ⟨si, e3⟩ : ∃ x, dQ n (V4 b0 b1 b2 b3) = x := ⟨_, rfl⟩
    obtain ⟨C, e4⟩ : ∃ x, dV n (V4 b0 b1 b2 b3) = x := ⟨_, rfl⟩
    obtain ⟨ex, e5⟩ : ∃ x, dX n (V4 b0 b1 b2 b3) = x := ⟨_, rfl⟩
    rw [e1] at hcl ⊢
    rw [e2, e3, e4, e5]
    rw [e4] at hCl
    rw [e5] at hxl
    have hVC := V4_w4 hCl
    have hbz := @blen_zero C
    have hbl := bl256 hCl
    obtain ⟨L, hL⟩ : ∃ L, blen C = L := ⟨_, rfl⟩
    rw [hL] at hbz hbl
    obtain ⟨R, hR⟩ : ∃ R, C * 2 ^ (257 - L) % 2 ^ 256 = R := ⟨_, rfl⟩
    have hRl : R < 2 ^ 256 := by rw [← hR]; exact Nat.mod_lt _ (Nat.pow_pos (by decide))
    have eN : (257 - (L : Int)).toNat = 257 - L := by omega
    have hV : val [w4 C 0, w4 C 1, w4 C 2, w4 C 3] = C := hVC
    rcases hcl with h1 | h1
    all_goals first
      | (have g1 : (cl == 1) = true := by rw [beq_iff_eq]; omega)
      | (have g1 : (cl == 1) = false := by rw [beq_eq_false_iff_ne]; omega)
    all_goals rcases Classical.em (C = 0) with h2 | h2
    all_goals first
      | (have g2 : ((L : Int) == 0) = true := by rw [beq_iff_eq]; omega)
      | (have g2 : ((L : Int) == 0) = false := by rw [beq_eq_false_iff_ne]; omega)
    all_goals obtain ⟨x, r, hT, hx⟩ := itoa_head (ex + (L : Int) - 1)
    all_goals have hTl := itoaLen (ex + (L : Int) - 1) (by omega) (by omega)
    all_goals rw [hT, List.length_cons] at hTl
    all_goals have hb0 : bt (bs (x :: r)) 0 = (x.toNat : Int) := by rw [bt_bs]; rfl
    all_goals have h45 := x45 hx
    all_goals have hcs : ex + (L : Int) - 1 < 0 ∨ ¬ ex + (L : Int) - 1 < 0 := by omega
    all_goals rcases hcs with h3 | h3
    all_goals first
      | rw [decide_eq_true h3] at h45
      | rw [decide_eq_false h3] at h45
    all_goals have m60 : min 60 64 = 60 := rfl
    all_goals have hen := hex_enc'
    all_goals obtain ⟨hdl, hhd⟩ : ∃ l : List UInt8, l = (if sg then [45, 48, 120] else [48, 120]) := ⟨_, rfl⟩
    all_goals have hdl3 : hdl.length ≤ 3 := by rw [hhd]; split <;> simp
    all_goals cases sg
    all_goals have t4 : (4 : Int).toNat = 4 := rfl
    all_goals have hV4 := hex_V4 R
    all_goals have hzk := hex_V0 R
    all_goals have hdg := hex_dig R
    all_goals have hnx := hex_next R
  all_goals repeat' (first
    | ((first
       | (with_reducible refine ops_k ?_; intro X hX)
       | (with_reducible refine opsN_k ?_; intro X hX)
       | (with_reducible show awp _ _ _ _ (keepL _ _) _)
       | with_reducible refine awp_cond_k ?_
       | (with_reducible refine Brk_i ?_ ?_ <;> intro hb <;> (try simp only [hb]) <;> have hq := hb <;> try simp only [decide_eq_true_eq, decide_eq_false_iff_not, gt_iff_lt, ge_iff_le, Int.not_lt, Int.not_le, beq_iff_eq, beq_eq_false_iff_ne, Bool.not_eq_true', Bool.not_eq_false', Bool.and_eq_true, Bool.or_eq_true, Bool.and_eq_false_imp, Bool.or_eq_false_iff, ne_eq, Classical.not_not] at hq)
       | with_reducible refine retP_ret_i ?_
       | with_reducible refine retP_normal_i ?_
       | (with_reducible (show bindG _ _ _ _ _); simp only [hall])) <;> try simp only [Go.AM.S1, Go.AM.S2, Go.AM.S3, Go.AM.S4, Go.AM.S5, Go.AM.S6, Go.AM.S7, Go.AM.S8, Go.AM.S9, Nat.reduceAdd, Nat.reduceMul, Nat.reduceSub, ↓reduceIte, Nat.reduceEqDiff, Nat.reduceLT, Nat.reduceLeDiff, reduceCtorEq, Int.reduceBEq, Int.reduceBNe, Nat.reduceBEq, Int.reduceEq, Int.reduceToNat, Int.reduceLE, Int.reduceLT, Nat.reduceDiv, Int.reduceAdd, Int.reduceSub, Int.reduceMul, Int.reduceNeg, Int.reduceGT, Int.reduceGE, Nat.reduceMod, k5_7, s7_eq, k5_8, s8_eq, k5_9, s9_eq, k5_10, s10_eq, k5_11, sItoa_eq, ty_3, ty_4, ty_5, ty_9, ty_22, ty_23, ty_24, ty_26, ty_31, ty_37, hO, e1, e2, e3, e4, e5, hVC, hL, hR, eN, hV, g1, g2, t4, hV4, hzk, hnx, hdg, hT, hb0, h45, m60, hen, hexU_len, IntKind.bits, List.length_cons, toInts, bs_lit, bs_app, bs_size, bs_beq, bs_list, List.length_append, List.append_nil, List.nil_append, List.cons_append])
    | (with_reducible refine hX _ _ ?_; clear hX X)
    | (with_reducible refine ops_nil_i ?_; try clear hall all)
    | (with_reducible refine opsN_nil_i ?_; try clear hall all)
    | (with_reducible refine hK _ _ ?_; clear hK K)
    | with_reducible refine thenP_normal_i ?_
    | (with_reducible refine zzr22 _ _ ?_; try clear zzr22 Kzzr22)
    | (with_reducible refine zzsr20 _ _ ?_; try clear zzsr20 Kzzsr20)
    | (with_reducible refine zzr20 _ _ ?_; try clear zzr20 Kzzr20)
    | (with_reducible refine zzr19 _ _ ?_; try clear zzr19 Kzzr19)
    | (with_reducible refine zzsr17 _ _ ?_; try clear zzsr17 Kzzsr17)
    | (with_reducible refine zzr17 _ _ ?_; try clear zzr17 Kzzr17)
    | (with_reducible refine zzb0 _ _ ?_; try clear zzb0 Kzzb0)
    | (with_reducible refine zzr15 _ _ ?_; try clear zzr15 Kzzr15)
    | (with_reducible refine zzsr14 _ _ ?_; try clear zzsr14 Kzzsr14)
    | (with_reducible refine zzr14 _ _ ?_; try clear zzr14 Kzzr14)
    | (with_reducible refine zzr13 _ _ ?_; try clear zzr13 Kzzr13)
    | (with_reducible refine zzr12 _ _ ?_; try clear zzr12 Kzzr12)
    | (with_reducible refine zzsr10 _ _ ?_; try clear zzsr10 Kzzsr10)
    | (with_reducible refine zzr11 _ _ ?_; try clear zzr11 Kzzr11)
    | (with_reducible refine zzr10 _ _ ?_; try clear zzr10 Kzzr10)
    | (with_reducible refine zzr9 _ _ ?_; try clear zzr9 Kzzr9)
    | (with_reducible refine zzsr7 _ _ ?_; try clear zzsr7 Kzzsr7)
    | (with_reducible refine zzr7 _ _ ?_; try clear zzr7 Kzzr7)
    | (with_reducible refine zzr6 _ _ ?_; try clear zzr6 Kzzr6)
    | (with_reducible refine zzsr4 _ _ ?_; try clear zzsr4 Kzzsr4)
    | (with_reducible refine zzr5 _ _ ?_; try clear zzr5 Kzzr5)
    | (with_reducible refine zzr4 _ _ ?_; try clear zzr4 Kzzr4)
    | (with_reducible refine zzsr2 _ _ ?_; try clear zzsr2 Kzzsr2)
    | (with_reducible refine zzr3 _ _ ?_; try clear zzr3 Kzzr3)
    | (with_reducible refine zzr2 _ _ ?_; try clear zzr2 Kzzr2)
    | (with_reducible refine zzr1 _ _ ?_; try clear zzr1 Kzzr1)
    | (with_reducible refine zzr0 _ _ ?_; try clear zzr0 Kzzr0)
    | (with_reducible refine awp_lp (c := .seq (.seq (.region 14 _ _) _) _) (σ := Nat) (fun k => k ≤ 64 ∧ (k = 0 ∨ R * 16 ^ (k - 1) % 2 ^ 256 ≠ 0)) (fun k => [(6, .ref 96 0), (8, .v (.string (bs hdl))), (9, .v (.int .i64 L)), (10, .ref 160 0), (11, .v (.string (bs (hexU R k))))]) (fun k => [(160, .vals [.int .u64 (w4 (R * 16 ^ k % 2 ^ 256) 0), .int .u64 (w4 (R * 16 ^ k % 2 ^ 256) 1), .int .u64 (w4 (R * 16 ^ k % 2 ^ 256) 2), .int .u64 (w4 (R * 16 ^ k % 2 ^ 256) 3)], false), (96, .vals [.int .i64 cl, .bool (hdl.length == 3), .bool si, .int .i64 ex, .int .u64 (w4 C 0), .int .u64 (w4 C 1), .int .u64 (w4 C 2), .int .u64 (w4 C 3)], false)]) (fun k => 64 - k) 0 ?_ ?_ (fun k hk => ?_))
    | (with_reducible refine awp_seq_l (a := .region 22 _ _) [4, 5] ?_; intro Kzzr22 zzr22)
    | (with_reducible refine awp_seq_l (a := .seq (.region 20 _ _) _) [8, 11, 12] ?_; intro Kzzsr20 zzsr20)
    | (with_reducible refine awp_seq_l (a := .region 20 _ _) [8, 11, 12, 65] ?_; intro Kzzr20 zzr20)
    | (with_reducible refine awp_seq_l (a := .region 19 _ _) [8, 11, 12] ?_; intro Kzzr19 zzr19)
    | (with_reducible refine awp_seq_l (a := .seq (.region 17 _ _) _) [6, 8, 9, 11] ?_; intro Kzzsr17 zzsr17)
    | (with_reducible refine awp_seq_l (a := .region 17 _ _) [6, 8, 9, 11, 54] ?_; intro Kzzr17 zzr17)
    | (with_reducible refine awp_seq_l (a := .block 0 _) [6, 8, 9, 11] ?_; intro Kzzb0 zzb0)
    | (with_reducible refine awp_seq_l (a := .region 15 _ _) [6, 8, 9, 10, 11] ?_; intro Kzzr15 zzr15)
    | (with_reducible refine awp_seq_l (a := .seq (.region 14 _ _) _) [6, 8, 9, 10, 11] ?_; intro Kzzsr14 zzsr14)
    | (with_reducible refine awp_seq_l (a := .region 14 _ _) [6, 8, 9, 10, 11, 43] ?_; intro Kzzr14 zzr14)
    | (with_reducible refine awp_seq_l (a := .region 13 _ _) [6, 8, 9, 10, 11] ?_; intro Kzzr13 zzr13)
    | (with_reducible refine awp_seq_l (a := .region 12 _ _) [6, 8, 9, 10] ?_; intro Kzzr12 zzr12)
    | (with_reducible refine awp_seq_l (a := .seq (.region 10 _ _) _) [6, 8, 9] ?_; intro Kzzsr10 zzsr10)
    | (with_reducible refine awp_seq_l (a := .region 11 _ _) [4, 5] ?_; intro Kzzr11 zzr11)
    | (with_reducible refine awp_seq_l (a := .region 10 _ _) [6, 8, 9, 33] ?_; intro Kzzr10 zzr10)
    | (with_reducible refine awp_seq_l (a := .region 9 _ _) [6, 8, 9] ?_; intro Kzzr9 zzr9)
    | (with_reducible refine awp_seq_l (a := .seq (.region 7 _ _) _) [6, 8] ?_; intro Kzzsr7 zzsr7)
    | (with_reducible refine awp_seq_l (a := .region 7 _ _) [6, 8, 28] ?_; intro Kzzr7 zzr7)
    | (with_reducible refine awp_seq_l (a := .region 6 _ _) [6, 8] ?_; intro Kzzr6 zzr6)
    | (with_reducible refine awp_seq_l (a := .seq (.region 4 _ _) _) [6] ?_; intro Kzzsr4 zzsr4)
    | (with_reducible refine awp_seq_l (a := .region 5 _ _) [4, 5] ?_; intro Kzzr5 zzr5)
    | (with_reducible refine awp_seq_l (a := .region 4 _ _) [6, 24] ?_; intro Kzzr4 zzr4)
    | (with_reducible refine awp_seq_l (a := .seq (.region 2 _ _) _) [6] ?_; intro Kzzsr2 zzsr2)
    | (with_reducible refine awp_seq_l (a := .region 3 _ _) [4, 5] ?_; intro Kzzr3 zzr3)
    | (with_reducible refine awp_seq_l (a := .region 2 _ _) [6, 7, 20] ?_; intro Kzzr2 zzr2)
    | (with_reducible refine awp_seq_l (a := .region 1 _ _) [6, 7] ?_; intro Kzzr1 zzr1)
    | (with_reducible refine awp_seq_l (a := .region 0 _ _) [0, 3] ?_; intro Kzzr0 zzr0)
    | (with_reducible refine awp_seq_k ?_; intro K hK)
    | (with_reducible refine awp_region_a ?_; intro all hall K hK)
    | (with_reducible refine awp_draw_n ?_ ?_; kernel_rfl; intro all hall K hK)
    | (with_reducible refine Chk_i ?_ ?_)
    | (with_reducible refine keysC_i ?_; kernel_rfl)
    | (with_reducible first | refine awp_block_i ?_ | refine awp_skip_i ?_ | refine awp_ret_i ?_ | refine awp_exit_i ?_ | refine thenP_ret_i ?_ | refine thenP_exit_i ?_ | refine lpP_ret_i ?_ | refine lpP_exit_i ?_ | refine unrP_succ_i ?_ | refine unrP_ret_i ?_ | refine unrP_exit_i ?_ | refine blockP_normal_i ?_ | refine blockP_ret_i ?_)
    | (with_reducible refine blockP_exit_i ?_; simp only [↓reduceIte, Nat.reduceEqDiff])
    | with_reducible refine lpP_normal_i ?_)
  all_goals (try clear zzr0; try clear Kzzr0)
  all_goals (try clear zzr1; try clear Kzzr1)
  all_goals (try clear zzr2; try clear Kzzr2)
  all_goals (try clear zzr3; try clear Kzzr3)
  all_goals (try clear zzsr2; try clear Kzzsr2)
  all_goals (try clear zzr4; try clear Kzzr4)
  all_goals (try clear zzr5; try clear Kzzr5)
  all_goals (try clear zzsr4; try clear Kzzsr4)
  all_goals (try clear zzr6; try clear Kzzr6)
  all_goals (try clear zzr7; try clear Kzzr7)
  all_goals (try clear zzsr7; try clear Kzzsr7)
  all_goals (try clear zzr9; try clear Kzzr9)
  all_goals (try clear zzr10; try clear Kzzr10)
  all_goals (try clear zzr11; try clear Kzzr11)
  all_goals (try clear zzsr10; try clear Kzzsr10)
  all_goals (try clear zzr12; try clear Kzzr12)
  all_goals (try clear zzr13; try clear Kzzr13)
  all_goals (try clear zzr14; try clear Kzzr14)
  all_goals (try clear zzsr14; try clear Kzzsr14)
  all_goals (try clear zzr15; try clear Kzzr15)
  all_goals (try clear zzb0; try clear Kzzb0)
  all_goals (try clear zzr17; try clear Kzzr17)
  all_goals (try clear zzsr17; try clear Kzzsr17)
  all_goals (try clear zzr19; try clear Kzzr19)
  all_goals (try clear zzr20; try clear Kzzr20)
  all_goals (try clear zzsr20; try clear Kzzsr20)
  all_goals (try clear zzr22; try clear Kzzr22)
  all_goals (try simp only [inR])
  all_goals first
    | omega
    | exact hp
    | exact ⟨w4_lim _ _, w4_lim _ _, w4_lim _ _, w4_lim _ _⟩
    | exact ⟨⟨w4_lim _ _, w4_lim _ _, w4_lim _ _, w4_lim _ _⟩, by omega, by omega⟩
    | exact ⟨h1, w4_lim _ _, w4_lim _ _, w4_lim _ _, w4_lim _ _⟩
    | exact ⟨by omega, by omega⟩
    | exact ⟨by omega, .inl trivial⟩
    | exact (show 0 ≤ (hexD R k : Int) ∧ (hexD R k : Int) < 16 by have := hexD_lt R k; omega)
    | (have e0 : R * 16 ^ 0 % 2 ^ 256 = R := by rw [Nat.pow_zero, Nat.mul_one, Nat.mod_eq_of_lt hRl]
       rw [e0]
       subst hhd
       refine ent_ok [(160, 160), (96, 96)] rfl ?_ ?_ <;> simp [memLe, slotsLe, AvLe, lk, Ct.len, hexU]; done)
    | (have h64 := hex_all R k hq
       exact ⟨k + 1, (by refine ent_ok [(160, 160), (96, 96)] rfl ?_ ?_ <;> simp [memLe, slotsLe, AvLe, lk, Ct.len, hexU]), ⟨by omega, .inr (by rw [Nat.add_sub_cancel]; exact hq)⟩, by omega⟩)
    | (have hj := hex_stop (by assumption : R * 16 ^ k % 2 ^ 256 = 0) hk.2
       unfold hexA
       rw [if_pos h1, hexT_eq h2 hL hR hj hhd, hT]
       first
         | rw [if_neg hq]
         | rw [if_pos hq, hq]
       first
         | rw [if_pos (by omega : 0 ≤ ex + (L : Int) - 1)]
         | rw [if_neg (by omega : ¬ 0 ≤ ex + (L : Int) - 1)]
       simp)
    | (unfold hexA; rw [if_neg (by omega)]; done)
    | (unfold hexA hexT; rw [if_pos h1, if_pos h2]; rfl)
    | skip
theorem sound_5 : Sound Tryz.prog 5 .body (norm s5) := by
  refine sound_norm (sound_body Tryz.func5 (show Tryz.f5.body = some (code Tryz.f5) from rfl) (by kernel_rfl) tysOk G5_ok (drawOk_ok (by kernel_rfl) tysOk G5_ok) (by kernel_rfl) fun ds p r hs hp => ?_)
  unfold s5 at hs
  split at hs
  · cases hs; exact ⟨Nat.le_of_ble_eq_true (by kernel_rfl), wk5 _ _ _ _ _ hp⟩
  · cases hs
end Go.Proofs.AMT
set_option maxRecDepth 20000
namespace Go.AM.LN
open Go Go.Lib
theorem hex_awake : okB 3 (V4 1069547520 0 0 0) = true ∧ hexA (dC 3 (V4 1069547520 0 0 0)) (dS 3 (V4 1069547520 0 0 0)) (dQ 3 (V4 1069547520 0 0 0)) (dV 3 (V4 1069547520 0 0 0)) (dX 3 (V4 1069547520 0 0 0)) = [48, 120, 49, 46, 56, 112, 43, 48] := by
  have e0 : V4 1069547520 0 0 0 = 1069547520 := by decide +kernel
  rw [e0]
  have e1 : okB 3 1069547520 = true := by decide +kernel
  have e2 : dC 3 1069547520 = 1 := by decide +kernel
  have e3 : dS 3 1069547520 = false := by decide +kernel
  have e4 : dV 3 1069547520 = 12582912 := by decide +kernel
  have e5 : dX 3 1069547520 = -23 := by decide +kernel
  refine ⟨e1, ?_⟩
  rw [e2, e3, e4, e5]
  have b : blen 12582912 = 24 := by decide +kernel
  obtain ⟨R, hR⟩ : ∃ R, 12582912 * 2 ^ (257 - 24) % 2 ^ 256 = R := ⟨_, rfl⟩
  have hj : HexJ R 1 := by
    rw [← hR]
    exact ⟨by decide +kernel, .inr (by decide +kernel)⟩
  have hu : hexU R 1 = [56] := by
    rw [← hR]
    decide +kernel
  have hi : itoa ((-23 : Int) + ((24 : Nat) : Int) - 1) = [48] := by
    rw [show (-23 : Int) + ((24 : Nat) : Int) - 1 = 0 by decide]
    unfold itoa
    rw [if_neg (by decide)]
    exact decD_small (by decide)
  unfold hexA
  rw [if_pos rfl, hexT_eq (sg := false) (hdl := [48, 120]) (by decide) b hR hj rfl, hu, hi]
  rfl
end Go.AM.LN
set_option maxRecDepth 20000
namespace Go.Proofs.AMT
open Go.AM Go.AM.LN
attribute [local congr] bindO_congr bindS_congr bindG_congr awpOps_congr aOne_congr awp_congr aCond_congr awpD_congr dOne_congr keysB_congr nOne_congr thenP_congr blockP_congr Chk_congr Brk_congr
noncomputable def s4 : CSpec := fun ds => match ds with
  | [] => some (True, .one (.v (.bool true)))
  | _ => none
theorem s4_eq  : norm s4 [] = some (True, .one (.v (.bool true))) := rfl
noncomputable def G4 : Gam := [(5, .body, norm s5)]
theorem G4_ok : GamOk Tryz.prog G4 := gamOk_cons sound_5 gamOk_nil
theorem k4_5 : lk G4 5 = some (.body, norm s5) := rfl
set_option maxHeartbeats 20000000 in
theorem wk4  (hp : True) : awp ty G4 (code Tryz.f4) (retP ty Tryz.f4.results.toList (.one (.v (.bool true)))) (entry 0 []) [] := by
  unfold code
  simp only [Tryz.f4, Option.getD_some]
  obtain ⟨q1, q2⟩ := hex_awake
  all_goals repeat' (first
    | ((first
       | (with_reducible refine ops_k ?_; intro X hX)
       | (with_reducible refine opsN_k ?_; intro X hX)
       | (with_reducible show awp _ _ _ _ (keepL _ _) _)
       | with_reducible refine awp_cond_k ?_
       | (with_reducible refine Brk_i ?_ ?_ <;> intro hb <;> (try simp only [hb]) <;> have hq := hb <;> try simp only [decide_eq_true_eq, decide_eq_false_iff_not, gt_iff_lt, ge_iff_le, Int.not_lt, Int.not_le, beq_iff_eq, beq_eq_false_iff_ne, Bool.not_eq_true', Bool.not_eq_false', Bool.and_eq_true, Bool.or_eq_true, Bool.and_eq_false_imp, Bool.or_eq_false_iff, ne_eq, Classical.not_not] at hq)
       | with_reducible refine retP_ret_i ?_
       | with_reducible refine retP_normal_i ?_
       | (with_reducible (show bindG _ _ _ _ _); simp only [hall])) <;> try simp only [Go.AM.S1, Go.AM.S2, Go.AM.S3, Go.AM.S4, Go.AM.S5, Go.AM.S6, Go.AM.S7, Go.AM.S8, Go.AM.S9, Nat.reduceAdd, Nat.reduceMul, Nat.reduceSub, ↓reduceIte, Nat.reduceEqDiff, Nat.reduceLT, Nat.reduceLeDiff, reduceCtorEq, Int.reduceBEq, Int.reduceBNe, Nat.reduceBEq, Int.reduceEq, Int.reduceToNat, Int.reduceLE, Int.reduceLT, Nat.reduceDiv, Int.reduceAdd, Int.reduceSub, Int.reduceMul, Int.reduceNeg, Int.reduceGT, Int.reduceGE, Nat.reduceMod, k4_5, s5_eq, ty_3, ty_9, ty_22, ty_24, ty_26, q1, q2, beq_self_eq_true, bs_lit, bs_app, bs_size, bs_beq, bs_list, List.length_append, List.append_nil, List.nil_append, List.cons_append])
    | (with_reducible refine hX _ _ ?_; clear hX X)
    | (with_reducible refine ops_nil_i ?_; try clear hall all)
    | (with_reducible refine opsN_nil_i ?_; try clear hall all)
    | (with_reducible refine hK _ _ ?_; clear hK K)
    | with_reducible refine thenP_normal_i ?_
    | (with_reducible refine zzr2 _ _ ?_; try clear zzr2 Kzzr2)
    | (with_reducible refine zzr1 _ _ ?_; try clear zzr1 Kzzr1)
    | (with_reducible refine zzr0 _ _ ?_; try clear zzr0 Kzzr0)
    | (with_reducible refine awp_seq_l (a := .region 2 _ _) [0] ?_; intro Kzzr2 zzr2)
    | (with_reducible refine awp_seq_l (a := .region 1 _ _) [1, 2] ?_; intro Kzzr1 zzr1)
    | (with_reducible refine awp_seq_l (a := .region 0 _ _) [] ?_; intro Kzzr0 zzr0)
    | (with_reducible refine awp_seq_k ?_; intro K hK)
    | (with_reducible refine awp_region_a ?_; intro all hall K hK)
    | (with_reducible refine awp_draw_n ?_ ?_; kernel_rfl; intro all hall K hK)
    | (with_reducible refine Chk_i ?_ ?_)
    | (with_reducible refine keysC_i ?_; kernel_rfl)
    | (with_reducible first | refine awp_block_i ?_ | refine awp_skip_i ?_ | refine awp_ret_i ?_ | refine awp_exit_i ?_ | refine thenP_ret_i ?_ | refine thenP_exit_i ?_ | refine lpP_ret_i ?_ | refine lpP_exit_i ?_ | refine unrP_succ_i ?_ | refine unrP_ret_i ?_ | refine unrP_exit_i ?_ | refine blockP_normal_i ?_ | refine blockP_ret_i ?_)
    | (with_reducible refine blockP_exit_i ?_; simp only [↓reduceIte, Nat.reduceEqDiff])
    | with_reducible refine lpP_normal_i ?_)
  all_goals (try clear zzr0; try clear Kzzr0)
  all_goals (try clear zzr1; try clear Kzzr1)
  all_goals (try clear zzr2; try clear Kzzr2)
  all_goals (try simp only [inR])
  all_goals first
    | omega
    | exact ⟨by decide, by decide, by decide, by decide⟩
    | skip
theorem sound_4 : Sound Tryz.prog 4 .body (norm s4) := by
  refine sound_norm (sound_body Tryz.func4 (show Tryz.f4.body = some (code Tryz.f4) from rfl) (by kernel_rfl) tysOk G4_ok (drawOk_ok (by kernel_rfl) tysOk G4_ok) (by kernel_rfl) fun ds p r hs hp => ?_)
  unfold s4 at hs
  split at hs
  · cases hs; exact ⟨Nat.le_of_ble_eq_true (by kernel_rfl), wk4  hp⟩
  · cases hs
end Go.Proofs.AMT
set_option maxRecDepth 20000
namespace Go.Proofs.AMT
open Go.AM Go.AM.LN
attribute [local congr] bindO_congr bindS_congr bindG_congr awpOps_congr aOne_congr awp_congr aCond_congr awpD_congr dOne_congr keysB_congr nOne_congr thenP_congr blockP_congr Chk_congr Brk_congr
noncomputable def s38 : CSpec := fun ds => match ds with
  | [.sl .u64 a] => some (lim a ∧ a.length ≤ 100000000, .one (.fresh .u64 (limbs (val a))))
  | _ => none
theorem s38_eq (a : List Int) : norm s38 [.sl .u64 a] = some (lim a ∧ a.length ≤ 100000000, .one (.fresh .u64 (limbs (val a)))) := rfl
theorem s38_nil1  : norm s38 [.v (.slice none 0 0)] = some (lim ([] : List Int) ∧ ([] : List Int).length ≤ 100000000, .one (.fresh .u64 (limbs (val ([] : List Int))))) := rfl
noncomputable def G38 : Gam := []
theorem G38_ok : GamOk Tryz.prog G38 := gamOk_nil
set_option maxHeartbeats 20000000 in
theorem wk38 (a : List Int) (hp : lim a ∧ a.length ≤ 100000000) : awp ty G38 (code Tryz.f38) (retP ty Tryz.f38.results.toList (.one (.fresh .u64 (limbs (val a))))) (entry 0 [.sl .u64 a]) [] := by
  unfold code
  simp only [Tryz.f38, Option.getD_some]
  all_goals repeat' (first
    | ((first
       | (with_reducible refine ops_k ?_; intro X hX)
       | (with_reducible refine opsN_k ?_; intro X hX)
       | (with_reducible show awp _ _ _ _ (keepL _ _) _)
       | with_reducible refine awp_cond_k ?_
       | (with_reducible refine Brk_i ?_ ?_ <;> intro hb <;> (try simp only [hb]) <;> have hq := hb <;> try simp only [decide_eq_true_eq, decide_eq_false_iff_not, gt_iff_lt, ge_iff_le, Int.not_lt, Int.not_le, beq_iff_eq, beq_eq_false_iff_ne, Bool.not_eq_true', Bool.not_eq_false', Bool.and_eq_true, Bool.or_eq_true, Bool.and_eq_false_imp, Bool.or_eq_false_iff, ne_eq, Classical.not_not] at hq)
       | with_reducible refine retP_ret_i ?_
       | with_reducible refine retP_normal_i ?_
       | (with_reducible (show bindG _ _ _ _ _); simp only [hall])) <;> try simp only [Go.AM.S1, Go.AM.S2, Go.AM.S3, Go.AM.S4, Go.AM.S5, Go.AM.S6, Go.AM.S7, Go.AM.S8, Go.AM.S9, Nat.reduceAdd, Nat.reduceMul, Nat.reduceSub, ↓reduceIte, Nat.reduceEqDiff, Nat.reduceLT, Nat.reduceLeDiff, reduceCtorEq, Int.reduceBEq, Int.reduceBNe, Nat.reduceBEq, Int.reduceEq, Int.reduceToNat, Int.reduceLE, Int.reduceLT, Nat.reduceDiv, Int.reduceAdd, Int.reduceSub, Int.reduceMul, Int.reduceNeg, Int.reduceGT, Int.reduceGE, Nat.reduceMod, ty_3, ty_22, ty_40, aOne_append, bindP_some, spAppend, intSl, yInts, killE, namesT, names, List.map_cons, List.map_nil, toInts, List.nil_append, List.length_take])
    | (with_reducible refine hX _ _ ?_; clear hX X)
    | (with_reducible refine ops_nil_i ?_; try clear hall all)
    | (with_reducible refine opsN_nil_i ?_; try clear hall all)
    | (with_reducible refine hK _ _ ?_; clear hK K)
    | with_reducible refine thenP_normal_i ?_
    | (with_reducible refine zzr4 _ _ ?_; try clear zzr4 Kzzr4)
    | (with_reducible refine zzb0 _ _ ?_; try clear zzb0 Kzzb0)
    | (with_reducible refine zzsr2 _ _ ?_; try clear zzsr2 Kzzsr2)
    | (with_reducible refine zzr2 _ _ ?_; try clear zzr2 Kzzr2)
    | (with_reducible refine zzr1 _ _ ?_; try clear zzr1 Kzzr1)
    | (with_reducible refine zzr0 _ _ ?_; try clear zzr0 Kzzr0)
    | (with_reducible refine awp_lp (σ := Nat) (fun n => n ≤ a.length ∧ ∀ i, n ≤ i → a.getD i 0 = 0) (fun n => [(0, .rd .u64 a), (3, .v (.int .i64 n))]) (fun _ => []) (fun n => n) a.length ?_ ?_ (fun s hs => ?_))
    | (with_reducible refine awp_seq_l (a := .region 4 _ _) [2] ?_; intro Kzzr4 zzr4)
    | (with_reducible refine awp_seq_l (a := .block 0 _) [0, 3] ?_; intro Kzzb0 zzb0)
    | (with_reducible refine awp_seq_l (a := .seq (.region 2 _ _) _) [0, 3] ?_; intro Kzzsr2 zzsr2)
    | (with_reducible refine awp_seq_l (a := .region 2 _ _) [0, 3, 15] ?_; intro Kzzr2 zzr2)
    | (with_reducible refine awp_seq_l (a := .region 1 _ _) [0, 3] ?_; intro Kzzr1 zzr1)
    | (with_reducible refine awp_seq_l (a := .region 0 _ _) [0] ?_; intro Kzzr0 zzr0)
    | (with_reducible refine awp_seq_k ?_; intro K hK)
    | (with_reducible refine awp_region_a ?_; intro all hall K hK)
    | (with_reducible refine awp_draw_n ?_ ?_; kernel_rfl; intro all hall K hK)
    | (with_reducible refine Chk_i ?_ ?_)
    | (with_reducible refine keysC_i ?_; kernel_rfl)
    | (with_reducible first | refine awp_block_i ?_ | refine awp_skip_i ?_ | refine awp_ret_i ?_ | refine awp_exit_i ?_ | refine thenP_ret_i ?_ | refine thenP_exit_i ?_ | refine lpP_ret_i ?_ | refine lpP_exit_i ?_ | refine unrP_succ_i ?_ | refine unrP_ret_i ?_ | refine unrP_exit_i ?_ | refine blockP_normal_i ?_ | refine blockP_ret_i ?_)
    | (with_reducible refine blockP_exit_i ?_; simp only [↓reduceIte, Nat.reduceEqDiff])
    | with_reducible refine lpP_normal_i ?_)
  all_goals (try clear zzr0; try clear Kzzr0)
  all_goals (try clear zzr1; try clear Kzzr1)
  all_goals (try clear zzr2; try clear Kzzr2)
  all_goals (try clear zzsr2; try clear Kzzsr2)
  all_goals (try clear zzb0; try clear Kzzb0)
  all_goals (try clear zzr4; try clear Kzzr4)
  all_goals (try simp only [inR])
  · exact ⟨Nat.le_refl _, fun i hi => by simp [List.getD, List.getElem?_eq_none hi]⟩
  · with_reducible exact Ent.refl _ _
  · omega
  · omega
  · omega
  · refine ⟨s - 1, by (refine ent_ok [] rfl ?_ ?_ <;> simp only [memLe, slotsLe, AvLe, lk, ↓reduceIte, Nat.reduceEqDiff, Option.isSome_some, and_self, and_true, true_and, reduceCtorEq, List.map_nil, List.map_cons, Option.some.injEq, AV.v.injEq, Value.int.injEq, Value.bool.injEq, AV.rd.injEq, AV.ow.injEq, AV.al.injEq, AV.ref.injEq] <;> omega), ⟨by omega, fun i hi => ?_⟩, by omega⟩
    by_cases h : s ≤ i
    · exact hs.2 i h
    · have : i = s - 1 := by omega
      subst this
      have e : ((s : Int) - 1).toNat = s - 1 := by omega
      rw [e] at hq
      exact hq
  · omega
  · omega
  · have e : ((s : Int) - 1).toNat = s - 1 := by omega
    rw [e] at hq
    rw [← sz_eq s hs.1 hs.2 (.inr hq), take_sz hp.1]
  · omega
  · omega
  · rw [← sz_eq s hs.1 hs.2 (.inl (by omega)), take_sz hp.1]
theorem sound_38 : Sound Tryz.prog 38 .body (norm s38) := by
  refine sound_norm (sound_body Tryz.func38 (show Tryz.f38.body = some (code Tryz.f38) from rfl) (by kernel_rfl) tysOk G38_ok (drawOk_ok (by kernel_rfl) tysOk G38_ok) (by kernel_rfl) fun ds p r hs hp => ?_)
  unfold s38 at hs
  split at hs
  · cases hs; exact ⟨Nat.le_of_ble_eq_true (by kernel_rfl), wk38 _ hp⟩
  · cases hs
end Go.Proofs.AMT
set_option maxRecDepth 20000
namespace Go.Proofs.AMT
open Go.AM Go.AM.LN
attribute [local congr] bindO_congr bindS_congr bindG_congr awpOps_congr aOne_congr awp_congr aCond_congr awpD_congr dOne_congr keysB_congr nOne_congr thenP_congr blockP_congr Chk_congr Brk_congr
noncomputable def s16 : CSpec := fun ds => match ds with
  | [.sl .u64 a, .v (.int .i64 n)] => some ((lim a ∧ a.length ≤ 40000000) ∧ 0 ≤ n ∧ n ≤ 1000000000, .one (.fresh .u64 (limbs (val a * 2 ^ n.toNat))))
  | _ => none
theorem s16_eq (a : List Int) (n : Int) : norm s16 [.sl .u64 a, .v (.int .i64 n)] = some ((lim a ∧ a.length ≤ 40000000) ∧ 0 ≤ n ∧ n ≤ 1000000000, .one (.fresh .u64 (limbs (val a * 2 ^ n.toNat)))) := rfl
theorem s16_nil1  (n : Int) : norm s16 [.v (.slice none 0 0), .v (.int .i64 n)] = some ((lim ([] : List Int) ∧ ([] : List Int).length ≤ 40000000) ∧ 0 ≤ n ∧ n ≤ 1000000000, .one (.fresh .u64 (limbs (val ([] : List Int) * 2 ^ n.toNat)))) := rfl
noncomputable def G16 : Gam := [(38, .body, norm s38)]
theorem G16_ok : GamOk Tryz.prog G16 := gamOk_cons sound_38 gamOk_nil
theorem k16_38 : lk G16 38 = some (.body, norm s38) := rfl
set_option maxHeartbeats 20000000 in
theorem wk16 (a : List Int) (n : Int) (hp : (lim a ∧ a.length ≤ 40000000) ∧ 0 ≤ n ∧ n ≤ 1000000000) : awp ty G16 (code Tryz.f16) (retP ty Tryz.f16.results.toList (.one (.fresh .u64 (limbs (val a * 2 ^ n.toNat))))) (entry 0 [.sl .u64 a, .v (.int .i64 n)]) [] := by
  unfold code
  simp only [Tryz.f16, Option.getD_some]
  obtain ⟨k, rfl⟩ := Int.eq_ofNat_of_zero_le hp.2.1
  have hk : k = 64 * (k / 64) + k % 64 := by omega
  obtain ⟨w, hw⟩ : ∃ w, k / 64 = w := ⟨_, rfl⟩
  obtain ⟨t, ht⟩ : ∃ t, k % 64 = t := ⟨_, rfl⟩
  have hd : (k : Int).tdiv 64 = (w : Int) := by rw [Int.tdiv_eq_ediv_of_nonneg (by omega)]; omega
  have hm : (k : Int).tmod 64 = (t : Int) := by rw [Int.tmod_eq_emod_of_nonneg (by omega)]; omega
  have hmm : (t : Int) % 18446744073709551616 = (t : Int) := by omega
  have m1 : min t 64 = t := by omega
  have m2 : ((64 - (t : Int)) % 18446744073709551616).toNat = 64 - t := by omega
  have m3 : min (64 - t) 64 = 64 - t := by omega
  obtain ⟨N, hN⟩ : ∃ N, a.length + w + 1 = N := ⟨_, rfl⟩
  have mT : ((a.length : Int) + (w : Int) + 1).toNat = N := by omega
  rcases Nat.eq_zero_or_pos t with ht0 | ht0
  all_goals first
    | (have g5 : decide ((t : Int) > 0) = true := by simp only [decide_eq_true_eq]; omega)
    | (have g5 : decide ((t : Int) > 0) = false := by simp only [decide_eq_false_iff_not]; omega)
  all_goals repeat' (first
    | ((first
       | (with_reducible refine ops_k ?_; intro X hX)
       | (with_reducible refine opsN_k ?_; intro X hX)
       | (with_reducible show awp _ _ _ _ (keepL _ _) _)
       | (with_reducible refine hX _ _ _ _ ?_; clear hX X)
       | (with_reducible refine opsD_k ?_; intro X hX)
       | with_reducible refine awp_cond_k ?_
       | (with_reducible refine Brk_i ?_ ?_ <;> intro hb <;> (try simp only [hb]) <;> have hq := hb <;> try simp only [decide_eq_true_eq, decide_eq_false_iff_not, gt_iff_lt, ge_iff_le, Int.not_lt, Int.not_le, beq_iff_eq, beq_eq_false_iff_ne, Bool.not_eq_true', Bool.not_eq_false', Bool.and_eq_true, Bool.or_eq_true, Bool.and_eq_false_imp, Bool.or_eq_false_iff, ne_eq, Classical.not_not] at hq)
       | with_reducible refine retP_ret_i ?_
       | with_reducible refine retP_normal_i ?_
       | (with_reducible (show bindG _ _ _ _ _); simp only [hall])) <;> try simp only [Go.AM.S1, Go.AM.S2, Go.AM.S3, Go.AM.S4, Go.AM.S5, Go.AM.S6, Go.AM.S7, Go.AM.S8, Go.AM.S9, Nat.reduceAdd, Nat.reduceMul, Nat.reduceSub, ↓reduceIte, Nat.reduceEqDiff, Nat.reduceLT, Nat.reduceLeDiff, reduceCtorEq, Int.reduceBEq, Int.reduceBNe, Nat.reduceBEq, Int.reduceEq, Int.reduceToNat, Int.reduceLE, Int.reduceLT, Nat.reduceDiv, Int.reduceAdd, Int.reduceSub, Int.reduceMul, Int.reduceNeg, Int.reduceGT, Int.reduceGE, Nat.reduceMod, k16_38, s38_eq, s38_nil1, ty_3, ty_22, ty_37, ty_40, List.length_replicate, hd, hm, hmm, mT, IntKind.bits, m1, m2, m3, g5])
    | (with_reducible refine hX _ _ ?_; clear hX X)
    | (with_reducible refine opsD_nil_i ?_; try clear hall all)
    | (with_reducible refine keysB_i ?_; kernel_rfl)
    | ((with_reducible show clashK _ _ _ = true); kernel_rfl)
    | (with_reducible refine ops_nil_i ?_; try clear hall all)
    | (with_reducible refine opsN_nil_i ?_; try clear hall all)
    | (with_reducible refine hK _ _ ?_; clear hK K)
    | with_reducible refine thenP_normal_i ?_
    | (with_reducible refine zzr9 _ _ ?_; try clear zzr9 Kzzr9)
    | (with_reducible refine zzsr2 _ _ ?_; try clear zzsr2 Kzzsr2)
    | (with_reducible refine zzb1 _ _ ?_; try clear zzb1 Kzzb1)
    | (with_reducible refine zzr6 _ _ ?_; try clear zzr6 Kzzr6)
    | (with_reducible refine zzr5 _ _ ?_; try clear zzr5 Kzzr5)
    | (with_reducible refine zzr4 _ _ ?_; try clear zzr4 Kzzr4)
    | (with_reducible refine zzctmp17 _ _ ?_; try clear zzctmp17 Kzzctmp17)
    | (with_reducible refine zzr3 _ _ ?_; try clear zzr3 Kzzr3)
    | (with_reducible refine zzr2 _ _ ?_; try clear zzr2 Kzzr2)
    | (with_reducible refine zzr1 _ _ ?_; try clear zzr1 Kzzr1)
    | (with_reducible refine zzr0 _ _ ?_; try clear zzr0 Kzzr0)
    | (with_reducible refine awp_lp (σ := Nat × List Int) (fun s => (s.1 ≤ a.length ∧ s.2.length = N) ∧ lim s.2 ∧ val s.2 = val (a.take s.1) * 2 ^ (64 * w + t)) (fun s => [(0, .rd .u64 a), (1, .v (.int .i64 k)), (5, .ow 208), (15, .v (.int .i64 a.length)), (16, .v (.int .i64 s.1))]) (fun s => [(208, .ints .u64 s.2, false)]) (fun s => a.length - s.1) (0, List.replicate N 0) ?_ ?_ (fun s hs => ?_))
    | (with_reducible refine awp_seq_l (a := .region 9 _ _) [4] ?_; intro Kzzr9 zzr9)
    | (with_reducible refine awp_seq_l (a := .seq (.region 2 _ _) _) [5] ?_; intro Kzzsr2 zzsr2)
    | (with_reducible refine awp_seq_l (a := .block 1 _) [0, 1, 5, 15, 16] ?_; intro Kzzb1 zzb1)
    | (with_reducible refine awp_seq_l (a := .region 6 _ _) [0, 1, 5, 6, 15, 16, 43] ?_; intro Kzzr6 zzr6)
    | (with_reducible refine awp_seq_l (a := .region 5 _ _) [0, 1, 5, 6, 15, 16] ?_; intro Kzzr5 zzr5)
    | (with_reducible refine awp_seq_l (a := .region 4 _ _) [0, 1, 5, 6, 15, 16] ?_; intro Kzzr4 zzr4)
    | (with_reducible refine awp_seq_l (a := .cond (.tmp 17) _ _) [0, 1, 5, 15, 16] ?_; intro Kzzctmp17 zzctmp17)
    | (with_reducible refine awp_seq_l (a := .region 3 _ _) [0, 1, 5, 15, 16, 17] ?_; intro Kzzr3 zzr3)
    | (with_reducible refine awp_seq_l (a := .region 2 _ _) [0, 1, 5, 15, 16] ?_; intro Kzzr2 zzr2)
    | (with_reducible refine awp_seq_l (a := .region 1 _ _) [0, 1, 5] ?_; intro Kzzr1 zzr1)
    | (with_reducible refine awp_seq_l (a := .region 0 _ _) [0, 1] ?_; intro Kzzr0 zzr0)
    | (with_reducible refine awp_seq_k ?_; intro K hK)
    | (with_reducible refine awp_region_a ?_; intro all hall K hK)
    | (with_reducible refine awp_draw_a (id := 5) ?_ ?_; kernel_rfl; intro all hall K hK)
    | (with_reducible refine awp_draw_n ?_ ?_; kernel_rfl; intro all hall K hK)
    | (with_reducible refine Chk_i ?_ ?_)
    | (with_reducible refine keysC_i ?_; kernel_rfl)
    | (with_reducible first | refine awp_block_i ?_ | refine awp_skip_i ?_ | refine awp_ret_i ?_ | refine awp_exit_i ?_ | refine thenP_ret_i ?_ | refine thenP_exit_i ?_ | refine lpP_ret_i ?_ | refine lpP_exit_i ?_ | refine unrP_succ_i ?_ | refine unrP_ret_i ?_ | refine unrP_exit_i ?_ | refine blockP_normal_i ?_ | refine blockP_ret_i ?_)
    | (with_reducible refine blockP_exit_i ?_; simp only [↓reduceIte, Nat.reduceEqDiff])
    | with_reducible refine lpP_normal_i ?_)
  all_goals (try clear zzr0; try clear Kzzr0)
  all_goals (try clear zzr1; try clear Kzzr1)
  all_goals (try clear zzr2; try clear Kzzr2)
  all_goals (try clear zzr3; try clear Kzzr3)
  all_goals (try clear zzctmp17; try clear Kzzctmp17)
  all_goals (try clear zzr4; try clear Kzzr4)
  all_goals (try clear zzr5; try clear Kzzr5)
  all_goals (try clear zzr6; try clear Kzzr6)
  all_goals (try clear zzb1; try clear Kzzb1)
  all_goals (try clear zzsr2; try clear Kzzsr2)
  all_goals (try clear zzr9; try clear Kzzr9)
  all_goals clear hmm m1 m2 m3 mT g5 hm hd
  all_goals (try simp only [inR])
  all_goals (try (rcases s with ⟨i, o⟩))
  all_goals (try (obtain ⟨ss, hs⟩ := hs))
  all_goals (try dsimp only at *)
  all_goals (try omega)
  · exact ⟨⟨Nat.zero_le _, by simp⟩, lim_rep _, by simp [val_rep, val]⟩
  · exact Ent.refl _ _
  · have e : ((i : Int) + (w : Int)).toNat = i + w := by omega
    have h1 := left_lt hp.1.1 hs.2
    rw [ht0, Nat.pow_zero, Nat.mul_one] at h1
    have h0 := getD_zero_of_lt hs.1 h1
    have h4 := lim_get hp.1.1 (i := i)
    rw [e, h0, ht0]
    have h5 : a.getD i 0 * 2 ^ 0 % 18446744073709551616 = a.getD i 0 := by omega
    rw [h5, bits0 h4]
    have h6 := hs.2
    rw [ht0, Nat.add_zero] at h6
    exact ⟨(i + 1, o.set (i + w) (a.getD i 0)), (by (refine ent_ok [(208, 208)] rfl ?_ ?_ <;> simp only [memLe, slotsLe, AvLe, lk, ↓reduceIte, Nat.reduceEqDiff, Option.isSome_some, and_self, and_true, true_and, reduceCtorEq, List.map_nil, List.map_cons, Option.some.injEq, AV.v.injEq, Value.int.injEq, Value.bool.injEq, AV.rd.injEq, AV.ow.injEq, AV.al.injEq, AV.ref.injEq] <;> omega)), ⟨⟨by dsimp only; omega, by simp; omega⟩, lim_set hs.1 h4 _, left_step0 hp.1.1 (by omega) h6 h0⟩, by dsimp only; omega⟩
  · exact ⟨hs.1, by omega⟩
  · have hi : i = a.length := by omega
    rw [hs.2, hi, List.take_length, hk, hw, ht]
  · exact ⟨⟨Nat.zero_le _, by simp⟩, lim_rep _, by simp [val_rep, val]⟩
  · exact Ent.refl _ _
  · have e : ((i : Int) + (w : Int)).toNat = i + w := by omega
    have h1 := left_lt hp.1.1 hs.2
    have e2 : ((i : Int) + (w : Int) + 1).toNat = i + w + 1 := by omega
    have h2 := low_word (V := 0) hs.1 h1 (show t ≤ 64 by omega)
    have h3 := lim_get hs.1 (i := i + w)
    have h4 := lim_get hp.1.1 (i := i)
    have h5 : o.getD (i + w + 1) 0 = 0 := getD_zero_of_lt hs.1 (Nat.lt_of_lt_of_le h1 (by rw [← Nat.pow_add]; exact Nat.pow_le_pow_right (by omega) (by omega)))
    rw [e, e2, or_low ⟨h3.1, h2⟩ h4 (by omega), castShr2 h4.1]
    have h6 : (o.getD (i + w) 0).toNat + (a.getD i 0).toNat * 2 ^ t % 18446744073709551616 < 18446744073709551616 := low_sum (by omega) h2
    have h7 : (a.getD i 0).toNat / 2 ^ (64 - t) < 18446744073709551616 := Nat.lt_of_le_of_lt (Nat.div_le_self _ _) (by omega)
    exact ⟨(i + 1, (o.set (i + w) (((o.getD (i + w) 0).toNat + (a.getD i 0).toNat * 2 ^ t % 18446744073709551616 : Nat) : Int)).set (i + w + 1) (((a.getD i 0).toNat / 2 ^ (64 - t) : Nat) : Int)), (by (refine ent_ok [(208, 208)] rfl ?_ ?_ <;> simp only [memLe, slotsLe, AvLe, lk, ↓reduceIte, Nat.reduceEqDiff, Option.isSome_some, and_self, and_true, true_and, reduceCtorEq, List.map_nil, List.map_cons, Option.some.injEq, AV.v.injEq, Value.int.injEq, Value.bool.injEq, AV.rd.injEq, AV.ow.injEq, AV.al.injEq, AV.ref.injEq] <;> omega)), ⟨⟨by dsimp only; omega, by simp; omega⟩, lim_set (lim_set hs.1 (nat_lim h6) _) (nat_lim h7) _, left_step hp.1.1 (by omega) (by omega) hs.2 rfl h5⟩, by dsimp only; omega⟩
  · exact ⟨hs.1, by omega⟩
  · have hi : i = a.length := by omega
    rw [hs.2, hi, List.take_length, hk, hw, ht]
theorem sound_16 : Sound Tryz.prog 16 .body (norm s16) := by
  refine sound_norm (sound_body Tryz.func16 (show Tryz.f16.body = some (code Tryz.f16) from rfl) (by kernel_rfl) tysOk G16_ok (drawOk_ok (by kernel_rfl) tysOk G16_ok) (by kernel_rfl) fun ds p r hs hp => ?_)
  unfold s16 at hs
  split at hs
  · cases hs; exact ⟨Nat.le_of_ble_eq_true (by kernel_rfl), wk16 _ _ hp⟩
  · cases hs
end Go.Proofs.AMT
set_option maxRecDepth 20000
namespace Go.Proofs.AMT
open Go.AM Go.AM.LN
attribute [local congr] bindO_congr bindS_congr bindG_congr awpOps_congr aOne_congr awp_congr aCond_congr awpD_congr dOne_congr keysB_congr nOne_congr thenP_congr blockP_congr Chk_congr Brk_congr
noncomputable def s39 : CSpec := fun ds => match ds with
  | [.sl .u64 a, .v (.int .i64 i)] => some (0 ≤ i, .one (.v (.int .u64 (a.getD i.toNat 0))))
  | _ => none
theorem s39_eq (a : List Int) (i : Int) : norm s39 [.sl .u64 a, .v (.int .i64 i)] = some (0 ≤ i, .one (.v (.int .u64 (a.getD i.toNat 0)))) := rfl
theorem s39_nil1  (i : Int) : norm s39 [.v (.slice none 0 0), .v (.int .i64 i)] = some (0 ≤ i, .one (.v (.int .u64 (([] : List Int).getD i.toNat 0)))) := rfl
noncomputable def G39 : Gam := []
theorem G39_ok : GamOk Tryz.prog G39 := gamOk_nil
set_option maxHeartbeats 20000000 in
theorem wk39 (a : List Int) (i : Int) (hp : 0 ≤ i) : awp ty G39 (code Tryz.f39) (retP ty Tryz.f39.results.toList (.one (.v (.int .u64 (a.getD i.toNat 0))))) (entry 0 [.sl .u64 a, .v (.int .i64 i)]) [] := by
  unfold code
  simp only [Tryz.f39, Option.getD_some]
  all_goals repeat' (first
    | ((first
       | (with_reducible refine ops_k ?_; intro X hX)
       | (with_reducible refine opsN_k ?_; intro X hX)
       | (with_reducible show awp _ _ _ _ (keepL _ _) _)
       | with_reducible refine awp_cond_k ?_
       | (with_reducible refine Brk_i ?_ ?_ <;> intro hb <;> (try simp only [hb]) <;> have hq := hb <;> try simp only [decide_eq_true_eq, decide_eq_false_iff_not, gt_iff_lt, ge_iff_le, Int.not_lt, Int.not_le, beq_iff_eq, beq_eq_false_iff_ne, Bool.not_eq_true', Bool.not_eq_false', Bool.and_eq_true, Bool.or_eq_true, Bool.and_eq_false_imp, Bool.or_eq_false_iff, ne_eq, Classical.not_not] at hq)
       | with_reducible refine retP_ret_i ?_
       | with_reducible refine retP_normal_i ?_
       | (with_reducible (show bindG _ _ _ _ _); simp only [hall])) <;> try simp only [Go.AM.S1, Go.AM.S2, Go.AM.S3, Go.AM.S4, Go.AM.S5, Go.AM.S6, Go.AM.S7, Go.AM.S8, Go.AM.S9, Nat.reduceAdd, Nat.reduceMul, Nat.reduceSub, ↓reduceIte, Nat.reduceEqDiff, Nat.reduceLT, Nat.reduceLeDiff, reduceCtorEq, Int.reduceBEq, Int.reduceBNe, Nat.reduceBEq, Int.reduceEq, Int.reduceToNat, Int.reduceLE, Int.reduceLT, Nat.reduceDiv, Int.reduceAdd, Int.reduceSub, Int.reduceMul, Int.reduceNeg, Int.reduceGT, Int.reduceGE, Nat.reduceMod, ty_3, ty_22, ty_40])
    | (with_reducible refine hX _ _ ?_; clear hX X)
    | (with_reducible refine ops_nil_i ?_; try clear hall all)
    | (with_reducible refine opsN_nil_i ?_; try clear hall all)
    | (with_reducible refine hK _ _ ?_; clear hK K)
    | with_reducible refine thenP_normal_i ?_
    | (with_reducible refine zzr3 _ _ ?_; try clear zzr3 Kzzr3)
    | (with_reducible refine zzsr1 _ _ ?_; try clear zzsr1 Kzzsr1)
    | (with_reducible refine zzr2 _ _ ?_; try clear zzr2 Kzzr2)
    | (with_reducible refine zzr1 _ _ ?_; try clear zzr1 Kzzr1)
    | (with_reducible refine zzr0 _ _ ?_; try clear zzr0 Kzzr0)
    | (with_reducible refine awp_seq_l (a := .region 3 _ _) [4] ?_; intro Kzzr3 zzr3)
    | (with_reducible refine awp_seq_l (a := .seq (.region 1 _ _) _) [0, 1] ?_; intro Kzzsr1 zzsr1)
    | (with_reducible refine awp_seq_l (a := .region 2 _ _) [4] ?_; intro Kzzr2 zzr2)
    | (with_reducible refine awp_seq_l (a := .region 1 _ _) [0, 1, 12] ?_; intro Kzzr1 zzr1)
    | (with_reducible refine awp_seq_l (a := .region 0 _ _) [0, 1] ?_; intro Kzzr0 zzr0)
    | (with_reducible refine awp_seq_k ?_; intro K hK)
    | (with_reducible refine awp_region_a ?_; intro all hall K hK)
    | (with_reducible refine awp_draw_n ?_ ?_; kernel_rfl; intro all hall K hK)
    | (with_reducible refine Chk_i ?_ ?_)
    | (with_reducible refine keysC_i ?_; kernel_rfl)
    | (with_reducible first | refine awp_block_i ?_ | refine awp_skip_i ?_ | refine awp_ret_i ?_ | refine awp_exit_i ?_ | refine thenP_ret_i ?_ | refine thenP_exit_i ?_ | refine lpP_ret_i ?_ | refine lpP_exit_i ?_ | refine unrP_succ_i ?_ | refine unrP_ret_i ?_ | refine unrP_exit_i ?_ | refine blockP_normal_i ?_ | refine blockP_ret_i ?_)
    | (with_reducible refine blockP_exit_i ?_; simp only [↓reduceIte, Nat.reduceEqDiff])
    | with_reducible refine lpP_normal_i ?_)
  all_goals (try clear zzr0; try clear Kzzr0)
  all_goals (try clear zzr1; try clear Kzzr1)
  all_goals (try clear zzr2; try clear Kzzr2)
  all_goals (try clear zzsr1; try clear Kzzsr1)
  all_goals (try clear zzr3; try clear Kzzr3)
  all_goals (try simp only [inR])
  all_goals first
    | omega
    | rfl
    | (rw [getD_out (by omega)])
theorem sound_39 : Sound Tryz.prog 39 .body (norm s39) := by
  refine sound_norm (sound_body Tryz.func39 (show Tryz.f39.body = some (code Tryz.f39) from rfl) (by kernel_rfl) tysOk G39_ok (drawOk_ok (by kernel_rfl) tysOk G39_ok) (by kernel_rfl) fun ds p r hs hp => ?_)
  unfold s39 at hs
  split at hs
  · cases hs; exact ⟨Nat.le_of_ble_eq_true (by kernel_rfl), wk39 _ _ hp⟩
  · cases hs
end Go.Proofs.AMT
set_option maxRecDepth 20000
namespace Go.Proofs.AMT
open Go.AM Go.AM.LN
attribute [local congr] bindO_congr bindS_congr bindG_congr awpOps_congr aOne_congr awp_congr aCond_congr awpD_congr dOne_congr keysB_congr nOne_congr thenP_congr blockP_congr Chk_congr Brk_congr
noncomputable def s17 : CSpec := fun ds => match ds with
  | [.sl .u64 a, .v (.int .i64 n)] => some ((lim a ∧ a.length ≤ 60000000) ∧ 0 ≤ n ∧ n ≤ 1000000000, .many [.fresh .u64 (limbs (val a / 2 ^ n.toNat)), .v (.bool (goneS a (n.toNat / 64) (n.toNat % 64) a.length))])
  | _ => none
theorem s17_eq (a : List Int) (n : Int) : norm s17 [.sl .u64 a, .v (.int .i64 n)] = some ((lim a ∧ a.length ≤ 60000000) ∧ 0 ≤ n ∧ n ≤ 1000000000, .many [.fresh .u64 (limbs (val a / 2 ^ n.toNat)), .v (.bool (goneS a (n.toNat / 64) (n.toNat % 64) a.length))]) := rfl
theorem s17_nil1  (n : Int) : norm s17 [.v (.slice none 0 0), .v (.int .i64 n)] = some ((lim ([] : List Int) ∧ ([] : List Int).length ≤ 60000000) ∧ 0 ≤ n ∧ n ≤ 1000000000, .many [.fresh .u64 (limbs (val ([] : List Int) / 2 ^ n.toNat)), .v (.bool (goneS ([] : List Int) (n.toNat / 64) (n.toNat % 64) ([] : List Int).length))]) := rfl
noncomputable def G17 : Gam := [(38, .body, norm s38), (39, .body, norm s39)]
theorem G17_ok : GamOk Tryz.prog G17 := gamOk_cons sound_38 (gamOk_cons sound_39 gamOk_nil)
theorem k17_38 : lk G17 38 = some (.body, norm s38) := rfl
theorem k17_39 : lk G17 39 = some (.body, norm s39) := rfl
set_option maxHeartbeats 20000000 in
theorem wk17 (a : List Int) (n : Int) (hp : (lim a ∧ a.length ≤ 60000000) ∧ 0 ≤ n ∧ n ≤ 1000000000) : awp ty G17 (code Tryz.f17) (retP ty Tryz.f17.results.toList (.many [.fresh .u64 (limbs (val a / 2 ^ n.toNat)), .v (.bool (goneS a (n.toNat / 64) (n.toNat % 64) a.length))])) (entry 0 [.sl .u64 a, .v (.int .i64 n)]) [] := by
  unfold code
  simp only [Tryz.f17, Option.getD_some]
  obtain ⟨k, rfl⟩ := Int.eq_ofNat_of_zero_le hp.2.1
  have hk : k = 64 * (k / 64) + k % 64 := by omega
  have mT : (k : Int).toNat = k := by omega
  obtain ⟨w, hw⟩ : ∃ w, k / 64 = w := ⟨_, rfl⟩
  obtain ⟨t, ht⟩ : ∃ t, k % 64 = t := ⟨_, rfl⟩
  have hd : (k : Int).tdiv 64 = (w : Int) := by rw [Int.tdiv_eq_ediv_of_nonneg (by omega)]; omega
  have hm : (k : Int).tmod 64 = (t : Int) := by rw [Int.tmod_eq_emod_of_nonneg (by omega)]; omega
  have hmm : (t : Int) % 18446744073709551616 = (t : Int) := by omega
  have m1 : min t 64 = t := by omega
  have m2 : ((64 - (t : Int)) % 18446744073709551616).toNat = 64 - t := by omega
  have m3 : min (64 - t) 64 = 64 - t := by omega
  have p1 : (2 : Int) ^ t < 2 ^ 64 := by exact_mod_cast Nat.pow_lt_pow_right (by omega) (show t < 64 by omega)
  have p2 : (1 : Int) ≤ 2 ^ t := by exact_mod_cast Nat.one_le_two_pow
  have p3 : (2 : Int) ^ 64 = 18446744073709551616 := by decide
  have mk : 1 * (2 : Int) ^ t % 18446744073709551616 = 2 ^ t := by omega
  have mk2 : ((2 : Int) ^ t - 1) % 18446744073709551616 = 2 ^ t - 1 := by omega
  clear p1 p2 p3
  rcases Nat.eq_zero_or_pos t with ht0 | ht0
  all_goals first
    | (have g5 : decide ((t : Int) > 0) = true := by simp only [decide_eq_true_eq]; omega)
    | (have g5 : decide ((t : Int) > 0) = false := by simp only [decide_eq_false_iff_not]; omega)
  all_goals repeat' (first
    | ((first
       | (with_reducible refine ops_k ?_; intro X hX)
       | (with_reducible refine opsN_k ?_; intro X hX)
       | (with_reducible show awp _ _ _ _ (keepL _ _) _)
       | with_reducible refine awp_cond_k ?_
       | (with_reducible refine Brk_i ?_ ?_ <;> intro hb <;> (try simp only [hb]) <;> have hq := hb <;> try simp only [decide_eq_true_eq, decide_eq_false_iff_not, gt_iff_lt, ge_iff_le, Int.not_lt, Int.not_le, beq_iff_eq, beq_eq_false_iff_ne, Bool.not_eq_true', Bool.not_eq_false', Bool.and_eq_true, Bool.or_eq_true, Bool.and_eq_false_imp, Bool.or_eq_false_iff, ne_eq, Classical.not_not] at hq)
       | with_reducible refine retP_ret_i ?_
       | with_reducible refine retP_normal_i ?_
       | (with_reducible (show bindG _ _ _ _ _); simp only [hall])) <;> try simp only [Go.AM.S1, Go.AM.S2, Go.AM.S3, Go.AM.S4, Go.AM.S5, Go.AM.S6, Go.AM.S7, Go.AM.S8, Go.AM.S9, Nat.reduceAdd, Nat.reduceMul, Nat.reduceSub, ↓reduceIte, Nat.reduceEqDiff, Nat.reduceLT, Nat.reduceLeDiff, reduceCtorEq, Int.reduceBEq, Int.reduceBNe, Nat.reduceBEq, Int.reduceEq, Int.reduceToNat, Int.reduceLE, Int.reduceLT, Nat.reduceDiv, Int.reduceAdd, Int.reduceSub, Int.reduceMul, Int.reduceNeg, Int.reduceGT, Int.reduceGE, Nat.reduceMod, k17_38, s38_eq, s38_nil1, k17_39, s39_eq, s39_nil1, ty_3, ty_22, ty_37, ty_40, aOne_append, bindP_some, spAppend, intSl, yInts, killE, namesT, names, List.map_cons, List.map_nil, toInts, hd, hm, hmm, hw, ht, mT, IntKind.bits, m1, m2, m3, mk, mk2, g5, List.length_append])
    | (with_reducible refine hX _ _ ?_; clear hX X)
    | (with_reducible refine ops_nil_i ?_; try clear hall all)
    | (with_reducible refine opsN_nil_i ?_; try clear hall all)
    | (with_reducible refine hK _ _ ?_; clear hK K)
    | with_reducible refine thenP_normal_i ?_
    | (with_reducible refine zzr16 _ _ ?_; try clear zzr16 Kzzr16)
    | (with_reducible refine zzsr9 _ _ ?_; try clear zzsr9 Kzzsr9)
    | (with_reducible refine zzb3 _ _ ?_; try clear zzb3 Kzzb3)
    | (with_reducible refine zzsr13 _ _ ?_; try clear zzsr13 Kzzsr13)
    | (with_reducible refine zzr13 _ _ ?_; try clear zzr13 Kzzr13)
    | (with_reducible refine zzr12 _ _ ?_; try clear zzr12 Kzzr12)
    | (with_reducible refine zzsr10 _ _ ?_; try clear zzsr10 Kzzsr10)
    | (with_reducible refine zzr10 _ _ ?_; try clear zzr10 Kzzr10)
    | (with_reducible refine zzr9 _ _ ?_; try clear zzr9 Kzzr9)
    | (with_reducible refine zzr8 _ _ ?_; try clear zzr8 Kzzr8)
    | (with_reducible refine zzsr2 _ _ ?_; try clear zzsr2 Kzzsr2)
    | (with_reducible refine zzb1 _ _ ?_; try clear zzb1 Kzzb1)
    | (with_reducible refine zzr5 _ _ ?_; try clear zzr5 Kzzr5)
    | (with_reducible refine zzr4 _ _ ?_; try clear zzr4 Kzzr4)
    | (with_reducible refine zzctmp14 _ _ ?_; try clear zzctmp14 Kzzctmp14)
    | (with_reducible refine zzr3 _ _ ?_; try clear zzr3 Kzzr3)
    | (with_reducible refine zzr2 _ _ ?_; try clear zzr2 Kzzr2)
    | (with_reducible refine zzr1 _ _ ?_; try clear zzr1 Kzzr1)
    | (with_reducible refine zzr0 _ _ ?_; try clear zzr0 Kzzr0)
    | (with_reducible refine awp_lp (c := .seq (.region 3 _ _) _) (σ := Nat) (fun s => s ≤ a.length) (fun s => [(0, .rd .u64 a), (1, .v (.int .i64 k)), (6, .v (.bool (goneS a w t s))), (12, .v (.int .i64 a.length)), (13, .v (.int .i64 s))]) (fun s => []) (fun s => a.length - s) 0 ?_ ?_ (fun s hs => ?_))
    | (with_reducible refine awp_lp (c := .seq (.seq (.region 10 _ _) _) _) (σ := Nat × List Int) (fun z => (w ≤ z.1 ∧ (z.1 ≤ a.length ∨ z.1 = w) ∧ z.2.length = z.1 - w) ∧ lim z.2 ∧ val z.2 + 2 ^ (64 * (z.1 - w)) * (val (a.drop z.1) / 2 ^ t) = val (a.drop w) / 2 ^ t) (fun z => [(0, .rd .u64 a), (1, .v (.int .i64 k)), (6, .v (.bool (goneS a w t a.length))), (8, .ow 1280), (9, .v (.int .i64 z.1))]) (fun z => [(1280, .ints .u64 z.2, false)]) (fun z => a.length + w - z.1) (w, []) ?_ ?_ (fun z hz => ?_))
    | (with_reducible refine awp_seq_l (a := .region 16 _ _) [4, 5] ?_; intro Kzzr16 zzr16)
    | (with_reducible refine awp_seq_l (a := .seq (.region 9 _ _) _) [6, 8] ?_; intro Kzzsr9 zzsr9)
    | (with_reducible refine awp_seq_l (a := .block 3 _) [0, 1, 6, 8, 9] ?_; intro Kzzb3 zzb3)
    | (with_reducible refine awp_seq_l (a := .seq (.region 13 _ _) _) [0, 1, 6, 8, 9, 10] ?_; intro Kzzsr13 zzsr13)
    | (with_reducible refine awp_seq_l (a := .region 13 _ _) [0, 1, 6, 8, 9, 10, 65] ?_; intro Kzzr13 zzr13)
    | (with_reducible refine awp_seq_l (a := .region 12 _ _) [0, 1, 6, 8, 9, 10] ?_; intro Kzzr12 zzr12)
    | (with_reducible refine awp_seq_l (a := .seq (.region 10 _ _) _) [0, 1, 6, 8, 9] ?_; intro Kzzsr10 zzsr10)
    | (with_reducible refine awp_seq_l (a := .region 10 _ _) [0, 1, 6, 8, 9, 52] ?_; intro Kzzr10 zzr10)
    | (with_reducible refine awp_seq_l (a := .region 9 _ _) [0, 1, 6, 8, 9] ?_; intro Kzzr9 zzr9)
    | (with_reducible refine awp_seq_l (a := .region 8 _ _) [0, 1, 6, 8] ?_; intro Kzzr8 zzr8)
    | (with_reducible refine awp_seq_l (a := .seq (.region 2 _ _) _) [0, 1, 6] ?_; intro Kzzsr2 zzsr2)
    | (with_reducible refine awp_seq_l (a := .block 1 _) [0, 1, 6, 12, 13] ?_; intro Kzzb1 zzb1)
    | (with_reducible refine awp_seq_l (a := .region 5 _ _) [0, 1, 6, 12, 13, 45] ?_; intro Kzzr5 zzr5)
    | (with_reducible refine awp_seq_l (a := .region 4 _ _) [0, 1, 6, 7, 12, 13] ?_; intro Kzzr4 zzr4)
    | (with_reducible refine awp_seq_l (a := .cond (.tmp 14) _ _) [0, 1, 6, 12, 13] ?_; intro Kzzctmp14 zzctmp14)
    | (with_reducible refine awp_seq_l (a := .region 3 _ _) [0, 1, 6, 12, 13, 14] ?_; intro Kzzr3 zzr3)
    | (with_reducible refine awp_seq_l (a := .region 2 _ _) [0, 1, 6, 12, 13] ?_; intro Kzzr2 zzr2)
    | (with_reducible refine awp_seq_l (a := .region 1 _ _) [0, 1, 6] ?_; intro Kzzr1 zzr1)
    | (with_reducible refine awp_seq_l (a := .region 0 _ _) [0, 1] ?_; intro Kzzr0 zzr0)
    | (with_reducible refine awp_seq_k ?_; intro K hK)
    | (with_reducible refine awp_region_a ?_; intro all hall K hK)
    | (with_reducible refine awp_draw_n ?_ ?_; kernel_rfl; intro all hall K hK)
    | (with_reducible refine Chk_i ?_ ?_)
    | (with_reducible refine keysC_i ?_; kernel_rfl)
    | (with_reducible first | refine awp_block_i ?_ | refine awp_skip_i ?_ | refine awp_ret_i ?_ | refine awp_exit_i ?_ | refine thenP_ret_i ?_ | refine thenP_exit_i ?_ | refine lpP_ret_i ?_ | refine lpP_exit_i ?_ | refine unrP_succ_i ?_ | refine unrP_ret_i ?_ | refine unrP_exit_i ?_ | refine blockP_normal_i ?_ | refine blockP_ret_i ?_)
    | (with_reducible refine blockP_exit_i ?_; simp only [↓reduceIte, Nat.reduceEqDiff])
    | with_reducible refine lpP_normal_i ?_)
  all_goals (try clear zzr0; try clear Kzzr0)
  all_goals (try clear zzr1; try clear Kzzr1)
  all_goals (try clear zzr2; try clear Kzzr2)
  all_goals (try clear zzr3; try clear Kzzr3)
  all_goals (try clear zzctmp14; try clear Kzzctmp14)
  all_goals (try clear zzr4; try clear Kzzr4)
  all_goals (try clear zzr5; try clear Kzzr5)
  all_goals (try clear zzb1; try clear Kzzb1)
  all_goals (try clear zzsr2; try clear Kzzsr2)
  all_goals (try clear zzr8; try clear Kzzr8)
  all_goals (try clear zzr9; try clear Kzzr9)
  all_goals (try clear zzr10; try clear Kzzr10)
  all_goals (try clear zzsr10; try clear Kzzsr10)
  all_goals (try clear zzr12; try clear Kzzr12)
  all_goals (try clear zzr13; try clear Kzzr13)
  all_goals (try clear zzsr13; try clear Kzzsr13)
  all_goals (try clear zzb3; try clear Kzzb3)
  all_goals (try clear zzsr9; try clear Kzzsr9)
  all_goals (try clear zzr16; try clear Kzzr16)
  all_goals clear hmm m1 m2 m3 mT g5 hm hd mk mk2
  all_goals (try simp only [inR])
  all_goals (try (rcases z with ⟨i, o⟩))
  all_goals (try dsimp only at *)
  all_goals first
    | omega
    | exact ⟨hp.1.1, by omega⟩
    | exact ⟨by omega, by omega⟩
    | (rw [goneS_zero]; (refine ent_ok [] rfl ?_ ?_ <;> simp only [memLe, slotsLe, AvLe, lk, ↓reduceIte, Nat.reduceEqDiff, Option.isSome_some, and_self, and_true, true_and, reduceCtorEq, List.map_nil, List.map_cons, Option.some.injEq, AV.v.injEq, Value.int.injEq, Value.bool.injEq, AV.rd.injEq, AV.ow.injEq, AV.al.injEq, AV.ref.injEq] <;> omega); done)
    | exact ⟨s + 1, (by rw [gone_t1 (by assumption) (by assumption)]; (refine ent_ok [] rfl ?_ ?_ <;> simp only [memLe, slotsLe, AvLe, lk, ↓reduceIte, Nat.reduceEqDiff, Option.isSome_some, and_self, and_true, true_and, reduceCtorEq, List.map_nil, List.map_cons, Option.some.injEq, AV.v.injEq, Value.int.injEq, Value.bool.injEq, AV.rd.injEq, AV.ow.injEq, AV.al.injEq, AV.ref.injEq] <;> omega)), by omega, by omega⟩
    | exact ⟨s + 1, (by rw [gone_t2 (by assumption) (by assumption)]; (refine ent_ok [] rfl ?_ ?_ <;> simp only [memLe, slotsLe, AvLe, lk, ↓reduceIte, Nat.reduceEqDiff, Option.isSome_some, and_self, and_true, true_and, reduceCtorEq, List.map_nil, List.map_cons, Option.some.injEq, AV.v.injEq, Value.int.injEq, Value.bool.injEq, AV.rd.injEq, AV.ow.injEq, AV.al.injEq, AV.ref.injEq] <;> omega)), by omega, by omega⟩
    | exact ⟨s + 1, (by rw [gone_f (fun h => by first | assumption | omega) (fun h => by first | assumption | omega)]; (refine ent_ok [] rfl ?_ ?_ <;> simp only [memLe, slotsLe, AvLe, lk, ↓reduceIte, Nat.reduceEqDiff, Option.isSome_some, and_self, and_true, true_and, reduceCtorEq, List.map_nil, List.map_cons, Option.some.injEq, AV.v.injEq, Value.int.injEq, Value.bool.injEq, AV.rd.injEq, AV.ow.injEq, AV.al.injEq, AV.ref.injEq] <;> omega)), by omega, by omega⟩
    | exact ⟨⟨Nat.le_refl _, .inr trivial, by simp⟩, fun x hx => by simp at hx, by simp [val]⟩
    | exact ⟨⟨Nat.le_refl _, .inr trivial, by simp⟩, by simp [lim], by simp [val]⟩
    | (have e : s = a.length := by omega
       rw [e]; (refine ent_ok [] rfl ?_ ?_ <;> simp [memLe, slotsLe, AvLe, lk, Ct.len]); done)
    | exact ⟨hz.2.1, by omega⟩
    | (have hk2 : k = 64 * w + t := by omega
       have hi : a.length ≤ i := by omega
       rw [right_fin hp.1.1 hk2 hi hz.2.2]; done)
    | (rw [rX0 hp.1.1 ht0]
       have hl := hz.1.2.2
       exact ⟨(i + 1, o ++ [(rX a i t : Int)]), (by (refine ent_ok [(1280, 1280)] rfl ?_ ?_ <;> simp only [memLe, slotsLe, AvLe, lk, ↓reduceIte, Nat.reduceEqDiff, Option.isSome_some, and_self, and_true, true_and, reduceCtorEq, List.map_nil, List.map_cons, Option.some.injEq, AV.v.injEq, Value.int.injEq, Value.bool.injEq, AV.rd.injEq, AV.ow.injEq, AV.al.injEq, AV.ref.injEq] <;> omega)), ⟨⟨by dsimp only; omega, .inl (by dsimp only; omega), by simp; omega⟩, lim_app.2 ⟨hz.2.1, lim_one (nat_lim (rX_lt hp.1.1 (by omega)))⟩, right_go hp.1.1 (by omega) hl (by omega) hz.2.2⟩, by dsimp only; omega⟩)
    | (have e : ((i : Int) + 1).toNat = i + 1 := by omega
       rw [e, rX1 hp.1.1 (by omega)]
       have hl := hz.1.2.2
       exact ⟨(i + 1, o ++ [(rX a i t : Int)]), (by (refine ent_ok [(1280, 1280)] rfl ?_ ?_ <;> simp only [memLe, slotsLe, AvLe, lk, ↓reduceIte, Nat.reduceEqDiff, Option.isSome_some, and_self, and_true, true_and, reduceCtorEq, List.map_nil, List.map_cons, Option.some.injEq, AV.v.injEq, Value.int.injEq, Value.bool.injEq, AV.rd.injEq, AV.ow.injEq, AV.al.injEq, AV.ref.injEq] <;> omega)), ⟨⟨by dsimp only; omega, .inl (by dsimp only; omega), by simp; omega⟩, lim_app.2 ⟨hz.2.1, lim_one (nat_lim (rX_lt hp.1.1 (by omega)))⟩, right_go hp.1.1 (by omega) hl (by omega) hz.2.2⟩, by dsimp only; omega⟩)
    | skip
theorem sound_17 : Sound Tryz.prog 17 .body (norm s17) := by
  refine sound_norm (sound_body Tryz.func17 (show Tryz.f17.body = some (code Tryz.f17) from rfl) (by kernel_rfl) tysOk G17_ok (drawOk_ok (by kernel_rfl) tysOk G17_ok) (by kernel_rfl) fun ds p r hs hp => ?_)
  unfold s17 at hs
  split at hs
  · cases hs; exact ⟨Nat.le_of_ble_eq_true (by kernel_rfl), wk17 _ _ hp⟩
  · cases hs
end Go.Proofs.AMT
set_option maxRecDepth 20000
namespace Go.Proofs.AMT
open Go.AM Go.AM.LN
attribute [local congr] bindO_congr bindS_congr bindG_congr awpOps_congr aOne_congr awp_congr aCond_congr awpD_congr dOne_congr keysB_congr nOne_congr thenP_congr blockP_congr Chk_congr Brk_congr
noncomputable def s37 : CSpec := fun ds => match ds with
  | [.sl .u64 a, .sl .u64 b] => some (((lim a ∧ a.length ≤ 50000000) ∧ lim b ∧ b.length ≤ 50000000) ∧ val b ≤ val a, .one (.fresh .u64 (limbs (val a - val b))))
  | _ => none
theorem s37_eq (a : List Int) (b : List Int) : norm s37 [.sl .u64 a, .sl .u64 b] = some (((lim a ∧ a.length ≤ 50000000) ∧ lim b ∧ b.length ≤ 50000000) ∧ val b ≤ val a, .one (.fresh .u64 (limbs (val a - val b)))) := rfl
theorem s37_nil1  (b : List Int) : norm s37 [.v (.slice none 0 0), .sl .u64 b] = some (((lim ([] : List Int) ∧ ([] : List Int).length ≤ 50000000) ∧ lim b ∧ b.length ≤ 50000000) ∧ val b ≤ val ([] : List Int), .one (.fresh .u64 (limbs (val ([] : List Int) - val b)))) := rfl
theorem s37_nil2 (a : List Int)  : norm s37 [.sl .u64 a, .v (.slice none 0 0)] = some (((lim a ∧ a.length ≤ 50000000) ∧ lim ([] : List Int) ∧ ([] : List Int).length ≤ 50000000) ∧ val ([] : List Int) ≤ val a, .one (.fresh .u64 (limbs (val a - val ([] : List Int))))) := rfl
theorem s37_nil3   : norm s37 [.v (.slice none 0 0), .v (.slice none 0 0)] = some (((lim ([] : List Int) ∧ ([] : List Int).length ≤ 50000000) ∧ lim ([] : List Int) ∧ ([] : List Int).length ≤ 50000000) ∧ val ([] : List Int) ≤ val ([] : List Int), .one (.fresh .u64 (limbs (val ([] : List Int) - val ([] : List Int))))) := rfl
noncomputable def G37 : Gam := [(38, .body, norm s38), (39, .body, norm s39), (59, .ext, sSub64)]
theorem G37_ok : GamOk Tryz.prog G37 := gamOk_cons sound_38 (gamOk_cons sound_39 (gamOk_cons ext_59 gamOk_nil))
theorem k37_38 : lk G37 38 = some (.body, norm s38) := rfl
theorem k37_39 : lk G37 39 = some (.body, norm s39) := rfl
theorem k37_59 : lk G37 59 = some (.ext, sSub64) := rfl
set_option maxHeartbeats 20000000 in
theorem wk37 (a : List Int) (b : List Int) (hp : ((lim a ∧ a.length ≤ 50000000) ∧ lim b ∧ b.length ≤ 50000000) ∧ val b ≤ val a) : awp ty G37 (code Tryz.f37) (retP ty Tryz.f37.results.toList (.one (.fresh .u64 (limbs (val a - val b))))) (entry 0 [.sl .u64 a, .sl .u64 b]) [] := by
  unfold code
  simp only [Tryz.f37, Option.getD_some]
  obtain ⟨N, hN⟩ : ∃ N, max a.length b.length = N := ⟨_, rfl⟩
  have mE : max (a.length : Int) (b.length : Int) = (N : Int) := by omega
  have mT : ((N : Int)).toNat = N := Int.toNat_natCast N
  all_goals repeat' (first
    | ((first
       | (with_reducible refine ops_k ?_; intro X hX)
       | (with_reducible refine opsN_k ?_; intro X hX)
       | (with_reducible show awp _ _ _ _ (keepL _ _) _)
       | with_reducible refine awp_cond_k ?_
       | (with_reducible refine Brk_i ?_ ?_ <;> intro hb <;> (try simp only [hb]) <;> have hq := hb <;> try simp only [decide_eq_true_eq, decide_eq_false_iff_not, gt_iff_lt, ge_iff_le, Int.not_lt, Int.not_le, beq_iff_eq, beq_eq_false_iff_ne, Bool.not_eq_true', Bool.not_eq_false', Bool.and_eq_true, Bool.or_eq_true, Bool.and_eq_false_imp, Bool.or_eq_false_iff, ne_eq, Classical.not_not] at hq)
       | with_reducible refine retP_ret_i ?_
       | with_reducible refine retP_normal_i ?_
       | (with_reducible (show bindG _ _ _ _ _); simp only [hall])) <;> try simp only [Go.AM.S1, Go.AM.S2, Go.AM.S3, Go.AM.S4, Go.AM.S5, Go.AM.S6, Go.AM.S7, Go.AM.S8, Go.AM.S9, Nat.reduceAdd, Nat.reduceMul, Nat.reduceSub, ↓reduceIte, Nat.reduceEqDiff, Nat.reduceLT, Nat.reduceLeDiff, reduceCtorEq, Int.reduceBEq, Int.reduceBNe, Nat.reduceBEq, Int.reduceEq, Int.reduceToNat, Int.reduceLE, Int.reduceLT, Nat.reduceDiv, Int.reduceAdd, Int.reduceSub, Int.reduceMul, Int.reduceNeg, Int.reduceGT, Int.reduceGE, Nat.reduceMod, k37_38, s38_eq, s38_nil1, k37_39, s39_eq, s39_nil1, k37_59, sSub64_eq, ty_3, ty_22, ty_40, mE, mT, List.length_replicate])
    | (with_reducible refine hX _ _ ?_; clear hX X)
    | (with_reducible refine ops_nil_i ?_; try clear hall all)
    | (with_reducible refine opsN_nil_i ?_; try clear hall all)
    | (with_reducible refine hK _ _ ?_; clear hK K)
    | with_reducible refine thenP_normal_i ?_
    | (with_reducible refine zzr8 _ _ ?_; try clear zzr8 Kzzr8)
    | (with_reducible refine zzsr3 _ _ ?_; try clear zzsr3 Kzzsr3)
    | (with_reducible refine zzb1 _ _ ?_; try clear zzb1 Kzzb1)
    | (with_reducible refine zzr5 _ _ ?_; try clear zzr5 Kzzr5)
    | (with_reducible refine zzctmp17 _ _ ?_; try clear zzctmp17 Kzzctmp17)
    | (with_reducible refine zzr4 _ _ ?_; try clear zzr4 Kzzr4)
    | (with_reducible refine zzr3 _ _ ?_; try clear zzr3 Kzzr3)
    | (with_reducible refine zzr2 _ _ ?_; try clear zzr2 Kzzr2)
    | (with_reducible refine zzr1 _ _ ?_; try clear zzr1 Kzzr1)
    | (with_reducible refine zzr0 _ _ ?_; try clear zzr0 Kzzr0)
    | (with_reducible refine awp_lp (σ := Nat × Nat × List Int) (fun s => (s.1 ≤ N ∧ s.2.1 ≤ 1 ∧ s.2.2.length = N) ∧ lim s.2.2 ∧ val (s.2.2.take s.1) + val (b.take s.1) = val (a.take s.1) + s.2.1 * 2 ^ (64 * s.1)) (fun s => [(0, .rd .u64 a), (1, .rd .u64 b), (5, .ow 208), (6, .v (.int .u64 s.2.1)), (15, .v (.int .i64 N)), (16, .v (.int .i64 s.1))]) (fun s => [(208, .ints .u64 s.2.2, false)]) (fun s => N - s.1) (0, 0, List.replicate N 0) ?_ ?_ (fun s hs => ?_))
    | (with_reducible refine awp_seq_l (a := .region 8 _ _) [4] ?_; intro Kzzr8 zzr8)
    | (with_reducible refine awp_seq_l (a := .seq (.region 3 _ _) _) [5] ?_; intro Kzzsr3 zzsr3)
    | (with_reducible refine awp_seq_l (a := .block 1 _) [0, 1, 5, 6, 15, 16] ?_; intro Kzzb1 zzb1)
    | (with_reducible refine awp_seq_l (a := .region 5 _ _) [0, 1, 5, 6, 7, 15, 16] ?_; intro Kzzr5 zzr5)
    | (with_reducible refine awp_seq_l (a := .cond (.tmp 17) _ _) [0, 1, 5, 6, 15, 16] ?_; intro Kzzctmp17 zzctmp17)
    | (with_reducible refine awp_seq_l (a := .region 4 _ _) [0, 1, 5, 6, 15, 16, 17] ?_; intro Kzzr4 zzr4)
    | (with_reducible refine awp_seq_l (a := .region 3 _ _) [0, 1, 5, 6, 15, 16] ?_; intro Kzzr3 zzr3)
    | (with_reducible refine awp_seq_l (a := .region 2 _ _) [0, 1, 5, 6] ?_; intro Kzzr2 zzr2)
    | (with_reducible refine awp_seq_l (a := .region 1 _ _) [0, 1, 5] ?_; intro Kzzr1 zzr1)
    | (with_reducible refine awp_seq_l (a := .region 0 _ _) [0, 1] ?_; intro Kzzr0 zzr0)
    | (with_reducible refine awp_seq_k ?_; intro K hK)
    | (with_reducible refine awp_region_a ?_; intro all hall K hK)
    | (with_reducible refine awp_draw_n ?_ ?_; kernel_rfl; intro all hall K hK)
    | (with_reducible refine Chk_i ?_ ?_)
    | (with_reducible refine keysC_i ?_; kernel_rfl)
    | (with_reducible first | refine awp_block_i ?_ | refine awp_skip_i ?_ | refine awp_ret_i ?_ | refine awp_exit_i ?_ | refine thenP_ret_i ?_ | refine thenP_exit_i ?_ | refine lpP_ret_i ?_ | refine lpP_exit_i ?_ | refine unrP_succ_i ?_ | refine unrP_ret_i ?_ | refine unrP_exit_i ?_ | refine blockP_normal_i ?_ | refine blockP_ret_i ?_)
    | (with_reducible refine blockP_exit_i ?_; simp only [↓reduceIte, Nat.reduceEqDiff])
    | with_reducible refine lpP_normal_i ?_)
  all_goals (try clear zzr0; try clear Kzzr0)
  all_goals (try clear zzr1; try clear Kzzr1)
  all_goals (try clear zzr2; try clear Kzzr2)
  all_goals (try clear zzr3; try clear Kzzr3)
  all_goals (try clear zzr4; try clear Kzzr4)
  all_goals (try clear zzctmp17; try clear Kzzctmp17)
  all_goals (try clear zzr5; try clear Kzzr5)
  all_goals (try clear zzb1; try clear Kzzb1)
  all_goals (try clear zzsr3; try clear Kzzsr3)
  all_goals (try clear zzr8; try clear Kzzr8)
  all_goals clear mE mT
  all_goals (try (rcases s with ⟨i, c, o⟩))
  all_goals (try (obtain ⟨ss, hs⟩ := hs))
  all_goals (try dsimp only at *)
  all_goals (try simp only [inR])
  all_goals (try omega)
  · exact ⟨⟨Nat.zero_le _, by omega, by simp⟩, lim_rep _, by simp [val]⟩
  · exact Ent.refl _ _
  · have h1 := lim_get hp.1.1.1 (i := i)
    have h2 := lim_get hp.1.2.1 (i := i)
    omega
  · obtain ⟨c', s', e1, e2, e3, e4, e5⟩ := less_step hp.1.1.1 hp.1.2.1 (show c ≤ 1 by omega) (show i < o.length by omega) hs.2
    rw [e1, e2]
    exact ⟨(i + 1, c', o.set i (s' : Int)), (by (refine ent_ok [(208, 208)] rfl ?_ ?_ <;> simp only [memLe, slotsLe, AvLe, lk, ↓reduceIte, Nat.reduceEqDiff, Option.isSome_some, and_self, and_true, true_and, reduceCtorEq, List.map_nil, List.map_cons, Option.some.injEq, AV.v.injEq, Value.int.injEq, Value.bool.injEq, AV.rd.injEq, AV.ow.injEq, AV.al.injEq, AV.ref.injEq] <;> omega)), ⟨⟨by dsimp only; omega, e3, by simp; omega⟩, lim_set hs.1 (nat_lim e4) _, e5⟩, by dsimp only; omega⟩
  · exact ⟨hs.1, by omega⟩
  · have hi : i = N := by omega
    subst hi
    rw [less_fin hp.1.1.1 hp.1.2.1 hs.1 (by omega) (by omega) (by omega) hp.2 hs.2]
theorem sound_37 : Sound Tryz.prog 37 .body (norm s37) := by
  refine sound_norm (sound_body Tryz.func37 (show Tryz.f37.body = some (code Tryz.f37) from rfl) (by kernel_rfl) tysOk G37_ok (drawOk_ok (by kernel_rfl) tysOk G37_ok) (by kernel_rfl) fun ds p r hs hp => ?_)
  unfold s37 at hs
  split at hs
  · cases hs; exact ⟨Nat.le_of_ble_eq_true (by kernel_rfl), wk37 _ _ hp⟩
  · cases hs
end Go.Proofs.AMT
set_option maxRecDepth 20000
namespace Go.Proofs.AMT
open Go.AM Go.AM.LN
attribute [local congr] bindO_congr bindS_congr bindG_congr awpOps_congr aOne_congr awp_congr aCond_congr awpD_congr dOne_congr keysB_congr nOne_congr thenP_congr blockP_congr Chk_congr Brk_congr
noncomputable def s15 : CSpec := fun ds => match ds with
  | [.v (.agg ⟨[.int .u64 b0, .int .u64 b1, .int .u64 b2, .int .u64 b3]⟩), .v (.int .i64 p), .v (.int .i64 n)] => some (((0 ≤ b0 ∧ b0 < 18446744073709551616) ∧ (0 ≤ b1 ∧ b1 < 18446744073709551616) ∧ (0 ≤ b2 ∧ b2 < 18446744073709551616) ∧ (0 ≤ b3 ∧ b3 < 18446744073709551616)) ∧ (0 ≤ p ∧ p ≤ 256) ∧ 0 ≤ n ∧ n ≤ 256, .one (.fresh .u64 (limbs ((V4 b0 b1 b2 b3) / 2 ^ p.toNat % 2 ^ n.toNat))))
  | _ => none
theorem s15_eq (b0 b1 b2 b3 : Int) (p : Int) (n : Int) : norm s15 [.v (.agg #[.int .u64 b0, .int .u64 b1, .int .u64 b2, .int .u64 b3]), .v (.int .i64 p), .v (.int .i64 n)] = some (((0 ≤ b0 ∧ b0 < 18446744073709551616) ∧ (0 ≤ b1 ∧ b1 < 18446744073709551616) ∧ (0 ≤ b2 ∧ b2 < 18446744073709551616) ∧ (0 ≤ b3 ∧ b3 < 18446744073709551616)) ∧ (0 ≤ p ∧ p ≤ 256) ∧ 0 ≤ n ∧ n ≤ 256, .one (.fresh .u64 (limbs ((V4 b0 b1 b2 b3) / 2 ^ p.toNat % 2 ^ n.toNat)))) := rfl
noncomputable def G15 : Gam := [(16, .body, norm s16), (17, .body, norm s17), (37, .body, norm s37)]
theorem G15_ok : GamOk Tryz.prog G15 := gamOk_cons sound_16 (gamOk_cons sound_17 (gamOk_cons sound_37 gamOk_nil))
theorem k15_16 : lk G15 16 = some (.body, norm s16) := rfl
theorem k15_17 : lk G15 17 = some (.body, norm s17) := rfl
theorem k15_37 : lk G15 37 = some (.body, norm s37) := rfl
set_option maxHeartbeats 20000000 in
theorem wk15 (b0 b1 b2 b3 : Int) (p : Int) (n : Int) (hp : ((0 ≤ b0 ∧ b0 < 18446744073709551616) ∧ (0 ≤ b1 ∧ b1 < 18446744073709551616) ∧ (0 ≤ b2 ∧ b2 < 18446744073709551616) ∧ (0 ≤ b3 ∧ b3 < 18446744073709551616)) ∧ (0 ≤ p ∧ p ≤ 256) ∧ 0 ≤ n ∧ n ≤ 256) : awp ty G15 (code Tryz.f15) (retP ty Tryz.f15.results.toList (.one (.fresh .u64 (limbs ((V4 b0 b1 b2 b3) / 2 ^ p.toNat % 2 ^ n.toNat))))) (entry 0 [.v (.agg #[.int .u64 b0, .int .u64 b1, .int .u64 b2, .int .u64 b3]), .v (.int .i64 p), .v (.int .i64 n)]) [] := by
  unfold code
  simp only [Tryz.f15, Option.getD_some]
  have hV : val [b0, b1, b2, b3] = (V4 b0 b1 b2 b3) := rfl
  have l4 := lim4 hp.1.1 hp.1.2.1 hp.1.2.2.1 hp.1.2.2.2
  have vl : (V4 b0 b1 b2 b3) < 2 ^ 256 := V4_lt hp.1.1 hp.1.2.1 hp.1.2.2.1 hp.1.2.2.2
  all_goals repeat' (first
    | ((first
       | (with_reducible refine ops_k ?_; intro X hX)
       | (with_reducible refine opsN_k ?_; intro X hX)
       | (with_reducible show awp _ _ _ _ (keepL _ _) _)
       | with_reducible refine awp_cond_k ?_
       | (with_reducible refine Brk_i ?_ ?_ <;> intro hb <;> (try simp only [hb]) <;> have hq := hb <;> try simp only [decide_eq_true_eq, decide_eq_false_iff_not, gt_iff_lt, ge_iff_le, Int.not_lt, Int.not_le, beq_iff_eq, beq_eq_false_iff_ne, Bool.not_eq_true', Bool.not_eq_false', Bool.and_eq_true, Bool.or_eq_true, Bool.and_eq_false_imp, Bool.or_eq_false_iff, ne_eq, Classical.not_not] at hq)
       | with_reducible refine retP_ret_i ?_
       | with_reducible refine retP_normal_i ?_
       | (with_reducible (show bindG _ _ _ _ _); simp only [hall])) <;> try simp only [Go.AM.S1, Go.AM.S2, Go.AM.S3, Go.AM.S4, Go.AM.S5, Go.AM.S6, Go.AM.S7, Go.AM.S8, Go.AM.S9, Nat.reduceAdd, Nat.reduceMul, Nat.reduceSub, ↓reduceIte, Nat.reduceEqDiff, Nat.reduceLT, Nat.reduceLeDiff, reduceCtorEq, Int.reduceBEq, Int.reduceBNe, Nat.reduceBEq, Int.reduceEq, Int.reduceToNat, Int.reduceLE, Int.reduceLT, Nat.reduceDiv, Int.reduceAdd, Int.reduceSub, Int.reduceMul, Int.reduceNeg, Int.reduceGT, Int.reduceGE, Nat.reduceMod, k15_16, s16_eq, s16_nil1, k15_17, s17_eq, s17_nil1, k15_37, s37_eq, s37_nil1, s37_nil2, s37_nil3, ty_3, ty_22, ty_24, ty_40, hV, val_limbs, toInts])
    | (with_reducible refine hX _ _ ?_; clear hX X)
    | (with_reducible refine ops_nil_i ?_; try clear hall all)
    | (with_reducible refine opsN_nil_i ?_; try clear hall all)
    | (with_reducible refine hK _ _ ?_; clear hK K)
    | with_reducible refine thenP_normal_i ?_
    | (with_reducible refine zzr3 _ _ ?_; try clear zzr3 Kzzr3)
    | (with_reducible refine zzr2 _ _ ?_; try clear zzr2 Kzzr2)
    | (with_reducible refine zzr1 _ _ ?_; try clear zzr1 Kzzr1)
    | (with_reducible refine zzr0 _ _ ?_; try clear zzr0 Kzzr0)
    | (with_reducible refine awp_seq_l (a := .region 3 _ _) [6] ?_; intro Kzzr3 zzr3)
    | (with_reducible refine awp_seq_l (a := .region 2 _ _) [2, 7, 9] ?_; intro Kzzr2 zzr2)
    | (with_reducible refine awp_seq_l (a := .region 1 _ _) [2, 7] ?_; intro Kzzr1 zzr1)
    | (with_reducible refine awp_seq_l (a := .region 0 _ _) [1, 2, 3] ?_; intro Kzzr0 zzr0)
    | (with_reducible refine awp_seq_k ?_; intro K hK)
    | (with_reducible refine awp_region_a ?_; intro all hall K hK)
    | (with_reducible refine awp_draw_n ?_ ?_; kernel_rfl; intro all hall K hK)
    | (with_reducible refine Chk_i ?_ ?_)
    | (with_reducible refine keysC_i ?_; kernel_rfl)
    | (with_reducible first | refine awp_block_i ?_ | refine awp_skip_i ?_ | refine awp_ret_i ?_ | refine awp_exit_i ?_ | refine thenP_ret_i ?_ | refine thenP_exit_i ?_ | refine lpP_ret_i ?_ | refine lpP_exit_i ?_ | refine unrP_succ_i ?_ | refine unrP_ret_i ?_ | refine unrP_exit_i ?_ | refine blockP_normal_i ?_ | refine blockP_ret_i ?_)
    | (with_reducible refine blockP_exit_i ?_; simp only [↓reduceIte, Nat.reduceEqDiff])
    | with_reducible refine lpP_normal_i ?_)
  all_goals (try clear zzr0; try clear Kzzr0)
  all_goals (try clear zzr1; try clear Kzzr1)
  all_goals (try clear zzr2; try clear Kzzr2)
  all_goals (try clear zzr3; try clear Kzzr3)
  all_goals (have x4 := len4 (Nat.lt_of_le_of_lt (Nat.div_le_self (V4 b0 b1 b2 b3) (2 ^ p.toNat)) vl))
  all_goals generalize (V4 b0 b1 b2 b3) / 2 ^ p.toNat = X at *
  all_goals (have y4 := Nat.le_trans (len_mono (Nat.div_le_self X (2 ^ n.toNat))) x4)
  all_goals (obtain ⟨ms, md⟩ := @mod_sub X (2 ^ n.toNat))
  all_goals (have z4 := Nat.le_trans (len_mono ms) x4)
  · exact ⟨l4, by omega, by omega⟩
  · exact ⟨⟨lim_limbs _, by omega⟩, by omega, by omega⟩
  · exact ⟨⟨lim_limbs _, by omega⟩, by omega, by omega⟩
  · exact ⟨⟨⟨lim_limbs _, by omega⟩, lim_limbs _, by omega⟩, ms⟩
  · rw [md]
theorem sound_15 : Sound Tryz.prog 15 .body (norm s15) := by
  refine sound_norm (sound_body Tryz.func15 (show Tryz.f15.body = some (code Tryz.f15) from rfl) (by kernel_rfl) tysOk G15_ok (drawOk_ok (by kernel_rfl) tysOk G15_ok) (by kernel_rfl) fun ds p r hs hp => ?_)
  unfold s15 at hs
  split at hs
  · cases hs; exact ⟨Nat.le_of_ble_eq_true (by kernel_rfl), wk15 _ _ _ _ _ _ hp⟩
  · cases hs
end Go.Proofs.AMT
set_option maxRecDepth 20000
namespace Go.Proofs.AMT
open Go.AM Go.AM.LN
attribute [local congr] bindO_congr bindS_congr bindG_congr awpOps_congr aOne_congr awp_congr aCond_congr awpD_congr dOne_congr keysB_congr nOne_congr thenP_congr blockP_congr Chk_congr Brk_congr
noncomputable def s54 : CSpec := fun ds => match ds with
  | [.v (.int .i64 n)] => some (True, .one (.v (.bool (decide (n ≥ 1) && decide (n ≤ 6)))))
  | _ => none
theorem s54_eq (n : Int) : norm s54 [.v (.int .i64 n)] = some (True, .one (.v (.bool (decide (n ≥ 1) && decide (n ≤ 6))))) := rfl
noncomputable def G54 : Gam := []
theorem G54_ok : GamOk Tryz.prog G54 := gamOk_nil
set_option maxHeartbeats 20000000 in
theorem wk54 (n : Int) (hp : True) : awp ty G54 (code Tryz.f54) (retP ty Tryz.f54.results.toList (.one (.v (.bool (decide (n ≥ 1) && decide (n ≤ 6)))))) (entry 0 [.v (.int .i64 n)]) [] := by
  unfold code
  simp only [Tryz.f54, Option.getD_some]
  all_goals repeat' (first
    | ((first
       | (with_reducible refine ops_k ?_; intro X hX)
       | (with_reducible refine opsN_k ?_; intro X hX)
       | (with_reducible show awp _ _ _ _ (keepL _ _) _)
       | with_reducible refine awp_cond_k ?_
       | (with_reducible refine Brk_i ?_ ?_ <;> intro hb <;> (try simp only [hb]) <;> have hq := hb <;> try simp only [decide_eq_true_eq, decide_eq_false_iff_not, gt_iff_lt, ge_iff_le, Int.not_lt, Int.not_le, beq_iff_eq, beq_eq_false_iff_ne, Bool.not_eq_true', Bool.not_eq_false', Bool.and_eq_true, Bool.or_eq_true, Bool.and_eq_false_imp, Bool.or_eq_false_iff, ne_eq, Classical.not_not] at hq)
       | with_reducible refine retP_ret_i ?_
       | with_reducible refine retP_normal_i ?_
       | (with_reducible (show bindG _ _ _ _ _); simp only [hall])) <;> try simp only [Go.AM.S1, Go.AM.S2, Go.AM.S3, Go.AM.S4, Go.AM.S5, Go.AM.S6, Go.AM.S7, Go.AM.S8, Go.AM.S9, Nat.reduceAdd, Nat.reduceMul, Nat.reduceSub, ↓reduceIte, Nat.reduceEqDiff, Nat.reduceLT, Nat.reduceLeDiff, reduceCtorEq, Int.reduceBEq, Int.reduceBNe, Nat.reduceBEq, Int.reduceEq, Int.reduceToNat, Int.reduceLE, Int.reduceLT, Nat.reduceDiv, Int.reduceAdd, Int.reduceSub, Int.reduceMul, Int.reduceNeg, Int.reduceGT, Int.reduceGE, Nat.reduceMod, ty_3])
    | (with_reducible refine hX _ _ ?_; clear hX X)
    | (with_reducible refine ops_nil_i ?_; try clear hall all)
    | (with_reducible refine opsN_nil_i ?_; try clear hall all)
    | (with_reducible refine hK _ _ ?_; clear hK K)
    | with_reducible refine thenP_normal_i ?_
    | (with_reducible refine zzr1 _ _ ?_; try clear zzr1 Kzzr1)
    | (with_reducible refine zzr0 _ _ ?_; try clear zzr0 Kzzr0)
    | (with_reducible refine awp_seq_l (a := .region 1 _ _) [2] ?_; intro Kzzr1 zzr1)
    | (with_reducible refine awp_seq_l (a := .region 0 _ _) [0] ?_; intro Kzzr0 zzr0)
    | (with_reducible refine awp_seq_k ?_; intro K hK)
    | (with_reducible refine awp_region_a ?_; intro all hall K hK)
    | (with_reducible refine awp_draw_n ?_ ?_; kernel_rfl; intro all hall K hK)
    | (with_reducible refine Chk_i ?_ ?_)
    | (with_reducible refine keysC_i ?_; kernel_rfl)
    | (with_reducible first | refine awp_block_i ?_ | refine awp_skip_i ?_ | refine awp_ret_i ?_ | refine awp_exit_i ?_ | refine thenP_ret_i ?_ | refine thenP_exit_i ?_ | refine lpP_ret_i ?_ | refine lpP_exit_i ?_ | refine unrP_succ_i ?_ | refine unrP_ret_i ?_ | refine unrP_exit_i ?_ | refine blockP_normal_i ?_ | refine blockP_ret_i ?_)
    | (with_reducible refine blockP_exit_i ?_; simp only [↓reduceIte, Nat.reduceEqDiff])
    | with_reducible refine lpP_normal_i ?_)
  all_goals (try clear zzr0; try clear Kzzr0)
  all_goals (try clear zzr1; try clear Kzzr1)
  all_goals (first | rfl | (simp [hb]; done) | skip)
theorem sound_54 : Sound Tryz.prog 54 .body (norm s54) := by
  refine sound_norm (sound_body Tryz.func54 (show Tryz.f54.body = some (code Tryz.f54) from rfl) (by kernel_rfl) tysOk G54_ok (drawOk_ok (by kernel_rfl) tysOk G54_ok) (by kernel_rfl) fun ds p r hs hp => ?_)
  unfold s54 at hs
  split at hs
  · cases hs; exact ⟨Nat.le_of_ble_eq_true (by kernel_rfl), wk54 _ hp⟩
  · cases hs
end Go.Proofs.AMT
set_option maxRecDepth 20000
namespace Go.Proofs.AMT
open Go.AM Go.AM.LN
attribute [local congr] bindO_congr bindS_congr bindG_congr awpOps_congr aOne_congr awp_congr aCond_congr awpD_congr dOne_congr keysB_congr nOne_congr thenP_congr blockP_congr Chk_congr Brk_congr
noncomputable def s36 : CSpec := fun ds => match ds with
  | [.sl .u64 a] => some (a.length ≤ 100000000, .one (.v (.int .i64 (sz a))))
  | _ => none
theorem s36_eq (a : List Int) : norm s36 [.sl .u64 a] = some (a.length ≤ 100000000, .one (.v (.int .i64 (sz a)))) := rfl
theorem s36_nil1  : norm s36 [.v (.slice none 0 0)] = some (([] : List Int).length ≤ 100000000, .one (.v (.int .i64 (sz ([] : List Int))))) := rfl
noncomputable def G36 : Gam := []
theorem G36_ok : GamOk Tryz.prog G36 := gamOk_nil
set_option maxHeartbeats 20000000 in
theorem wk36 (a : List Int) (hp : a.length ≤ 100000000) : awp ty G36 (code Tryz.f36) (retP ty Tryz.f36.results.toList (.one (.v (.int .i64 (sz a))))) (entry 0 [.sl .u64 a]) [] := by
  unfold code
  simp only [Tryz.f36, Option.getD_some]
  all_goals repeat' (first
    | ((first
       | (with_reducible refine ops_k ?_; intro X hX)
       | (with_reducible refine opsN_k ?_; intro X hX)
       | (with_reducible show awp _ _ _ _ (keepL _ _) _)
       | with_reducible refine awp_cond_k ?_
       | (with_reducible refine Brk_i ?_ ?_ <;> intro hb <;> (try simp only [hb]) <;> have hq := hb <;> try simp only [decide_eq_true_eq, decide_eq_false_iff_not, gt_iff_lt, ge_iff_le, Int.not_lt, Int.not_le, beq_iff_eq, beq_eq_false_iff_ne, Bool.not_eq_true', Bool.not_eq_false', Bool.and_eq_true, Bool.or_eq_true, Bool.and_eq_false_imp, Bool.or_eq_false_iff, ne_eq, Classical.not_not] at hq)
       | with_reducible refine retP_ret_i ?_
       | with_reducible refine retP_normal_i ?_
       | (with_reducible (show bindG _ _ _ _ _); simp only [hall])) <;> try simp only [Go.AM.S1, Go.AM.S2, Go.AM.S3, Go.AM.S4, Go.AM.S5, Go.AM.S6, Go.AM.S7, Go.AM.S8, Go.AM.S9, Nat.reduceAdd, Nat.reduceMul, Nat.reduceSub, ↓reduceIte, Nat.reduceEqDiff, Nat.reduceLT, Nat.reduceLeDiff, reduceCtorEq, Int.reduceBEq, Int.reduceBNe, Nat.reduceBEq, Int.reduceEq, Int.reduceToNat, Int.reduceLE, Int.reduceLT, Nat.reduceDiv, Int.reduceAdd, Int.reduceSub, Int.reduceMul, Int.reduceNeg, Int.reduceGT, Int.reduceGE, Nat.reduceMod, ty_3, ty_22, ty_40])
    | (with_reducible refine hX _ _ ?_; clear hX X)
    | (with_reducible refine ops_nil_i ?_; try clear hall all)
    | (with_reducible refine opsN_nil_i ?_; try clear hall all)
    | (with_reducible refine hK _ _ ?_; clear hK K)
    | with_reducible refine thenP_normal_i ?_
    | (with_reducible refine zzr4 _ _ ?_; try clear zzr4 Kzzr4)
    | (with_reducible refine zzb0 _ _ ?_; try clear zzb0 Kzzb0)
    | (with_reducible refine zzsr2 _ _ ?_; try clear zzsr2 Kzzsr2)
    | (with_reducible refine zzr2 _ _ ?_; try clear zzr2 Kzzr2)
    | (with_reducible refine zzr1 _ _ ?_; try clear zzr1 Kzzr1)
    | (with_reducible refine zzr0 _ _ ?_; try clear zzr0 Kzzr0)
    | (with_reducible refine awp_lp (σ := Nat) (fun n => n ≤ a.length ∧ ∀ i, n ≤ i → a.getD i 0 = 0) (fun n => [(0, .rd .u64 a), (3, .v (.int .i64 n))]) (fun _ => []) (fun n => n) a.length ?_ ?_ (fun s hs => ?_))
    | (with_reducible refine awp_seq_l (a := .region 4 _ _) [2] ?_; intro Kzzr4 zzr4)
    | (with_reducible refine awp_seq_l (a := .block 0 _) [3] ?_; intro Kzzb0 zzb0)
    | (with_reducible refine awp_seq_l (a := .seq (.region 2 _ _) _) [0, 3] ?_; intro Kzzsr2 zzsr2)
    | (with_reducible refine awp_seq_l (a := .region 2 _ _) [0, 3, 15] ?_; intro Kzzr2 zzr2)
    | (with_reducible refine awp_seq_l (a := .region 1 _ _) [0, 3] ?_; intro Kzzr1 zzr1)
    | (with_reducible refine awp_seq_l (a := .region 0 _ _) [0] ?_; intro Kzzr0 zzr0)
    | (with_reducible refine awp_seq_k ?_; intro K hK)
    | (with_reducible refine awp_region_a ?_; intro all hall K hK)
    | (with_reducible refine awp_draw_n ?_ ?_; kernel_rfl; intro all hall K hK)
    | (with_reducible refine Chk_i ?_ ?_)
    | (with_reducible refine keysC_i ?_; kernel_rfl)
    | (with_reducible first | refine awp_block_i ?_ | refine awp_skip_i ?_ | refine awp_ret_i ?_ | refine awp_exit_i ?_ | refine thenP_ret_i ?_ | refine thenP_exit_i ?_ | refine lpP_ret_i ?_ | refine lpP_exit_i ?_ | refine unrP_succ_i ?_ | refine unrP_ret_i ?_ | refine unrP_exit_i ?_ | refine blockP_normal_i ?_ | refine blockP_ret_i ?_)
    | (with_reducible refine blockP_exit_i ?_; simp only [↓reduceIte, Nat.reduceEqDiff])
    | with_reducible refine lpP_normal_i ?_)
  all_goals (try clear zzr0; try clear Kzzr0)
  all_goals (try clear zzr1; try clear Kzzr1)
  all_goals (try clear zzr2; try clear Kzzr2)
  all_goals (try clear zzsr2; try clear Kzzsr2)
  all_goals (try clear zzb0; try clear Kzzb0)
  all_goals (try clear zzr4; try clear Kzzr4)
  all_goals (try simp only [inR])
  · exact ⟨Nat.le_refl _, fun i hi => by simp [List.getD, List.getElem?_eq_none hi]⟩
  · with_reducible exact Ent.refl _ _
  · omega
  · omega
  · omega
  · refine ⟨s - 1, by (refine ent_ok [] rfl ?_ ?_ <;> simp only [memLe, slotsLe, AvLe, lk, ↓reduceIte, Nat.reduceEqDiff, Option.isSome_some, and_self, and_true, true_and, reduceCtorEq, List.map_nil, List.map_cons, Option.some.injEq, AV.v.injEq, Value.int.injEq, Value.bool.injEq, AV.rd.injEq, AV.ow.injEq, AV.al.injEq, AV.ref.injEq] <;> omega), ⟨by omega, fun i hi => ?_⟩, by omega⟩
    by_cases h : s ≤ i
    · exact hs.2 i h
    · have : i = s - 1 := by omega
      subst this
      have e : ((s : Int) - 1).toNat = s - 1 := by omega
      rw [e] at hq
      exact hq
  · have e : ((s : Int) - 1).toNat = s - 1 := by omega
    rw [e] at hq
    rw [sz_eq s hs.1 hs.2 (.inr hq)]
  · rw [sz_eq s hs.1 hs.2 (.inl (by omega))]
theorem sound_36 : Sound Tryz.prog 36 .body (norm s36) := by
  refine sound_norm (sound_body Tryz.func36 (show Tryz.f36.body = some (code Tryz.f36) from rfl) (by kernel_rfl) tysOk G36_ok (drawOk_ok (by kernel_rfl) tysOk G36_ok) (by kernel_rfl) fun ds p r hs hp => ?_)
  unfold s36 at hs
  split at hs
  · cases hs; exact ⟨Nat.le_of_ble_eq_true (by kernel_rfl), wk36 _ hp⟩
  · cases hs
end Go.Proofs.AMT
