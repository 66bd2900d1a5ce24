/- Part 10 of the proof: own text (A30, LW, NA, A31). -/
import Derived.Laws.FloatArith
import Derived.Test.YtknejocjkjpfmaaK0
import Derived.Test.YtknejocjkjpfmaaK1
import Derived.Test.YtknejocjkjpfmaaK2
import Derived.Test.YtknejocjkjpfmaaK3
import Derived.Test.YtknejocjkjpfmaaK4
import Derived.Test.YtknejocjkjpfmaaK5
import Derived.Test.YtknejocjkjpfmaaK6
import Derived.Test.YtknejocjkjpfmaaK7
import Derived.Test.YtknejocjkjpfmaaK8
import Derived.Test.YtknejocjkjpfmaaK9
set_option linter.all false
set_option maxRecDepth 20000
namespace Go.Proofs.AMT
open Go.AM Go.AM.LN
attribute [local congr] bindO_congr bindS_congr bindG_congr awpOps_congr aOne_congr awp_congr aCond_congr awpD_congr dOne_congr keysB_congr nOne_congr thenP_congr blockP_congr Chk_congr Brk_congr
def cvV (y : Nat) : Nat := if y / 2 ^ 23 % 2 ^ 8 = 255 then 0 else if y / 2 ^ 23 % 2 ^ 8 = 0 then y % 2 ^ 23 else y % 2 ^ 23 ||| 1 * 2 ^ 23 % 2 ^ 256
def cvE (y : Nat) : Int := if y / 2 ^ 23 % 2 ^ 8 = 255 then 0 else -149 + max (((y / 2 ^ 23 % 2 ^ 8 : Nat) : Int) - 1) 0
def cvC (y : Nat) : Int := if y / 2 ^ 23 % 2 ^ 8 = 255 then 2 else 1
def cvS (y : Nat) : Nat := if cvC y = 1 ∧ cvV y ≠ 0 then packS 4 1 (y / 2 ^ 31 % 2 == 1) (cvV y * 2 ^ (53 - blen (cvV y))) (cvE y + blen (cvV y) - 53) else packS 4 (cvC y) (y / 2 ^ 31 % 2 == 1) (cvV y) (if cvC y = 1 then -1074 else cvE y)
theorem cvV_lt (y : Nat) : cvV y < 2 ^ 24 := by
  unfold cvV
  split
  · exact Nat.two_pow_pos _
  · split
    · omega
    · refine Nat.or_lt_two_pow (by omega) ?_
      decide
theorem cvW (y i : Nat) : (if y / 2 ^ 23 % 2 ^ 8 = 255 then 0 else w4 (if y / 2 ^ 23 % 2 ^ 8 = 0 then y % 2 ^ 23 else y % 2 ^ 23 ||| 1 * 2 ^ 23 % 2 ^ 256) i) = w4 (cvV y) i := by
  unfold cvV
  split
  · rw [w4_zero]
  · rfl
noncomputable def s10 : CSpec := fun ds => match ds with
  | [.v (.int .i64 n), .v (.int .i64 m), .v (.int .i64 d), .v (.agg ⟨[.int .u64 b0, .int .u64 b1, .int .u64 b2, .int .u64 b3]⟩)] => some (n = 3 ∧ m = 4 ∧ (0 ≤ d ∧ d ≤ 4) ∧ (0 ≤ b0 ∧ b0 < 4294967296) ∧ b1 = 0 ∧ b2 = 0 ∧ b3 = 0 ∧ ((b0.toNat / 2 ^ 23 % 2 ^ 8) = 255 → (b0.toNat % 2 ^ 23) = 0), .many [.v (.agg #[.int .u64 (w4 (cvS b0.toNat) 0), .int .u64 (w4 (cvS b0.toNat) 1), .int .u64 (w4 (cvS b0.toNat) 2), .int .u64 (w4 (cvS b0.toNat) 3)]), .v (.int .i64 0), .v (.int .i64 0)])
  | _ => none
theorem s10_eq (n : Int) (m : Int) (d : Int) (b0 b1 b2 b3 : Int) : norm s10 [.v (.int .i64 n), .v (.int .i64 m), .v (.int .i64 d), .v (.agg #[.int .u64 b0, .int .u64 b1, .int .u64 b2, .int .u64 b3])] = some (n = 3 ∧ m = 4 ∧ (0 ≤ d ∧ d ≤ 4) ∧ (0 ≤ b0 ∧ b0 < 4294967296) ∧ b1 = 0 ∧ b2 = 0 ∧ b3 = 0 ∧ ((b0.toNat / 2 ^ 23 % 2 ^ 8) = 255 → (b0.toNat % 2 ^ 23) = 0), .many [.v (.agg #[.int .u64 (w4 (cvS b0.toNat) 0), .int .u64 (w4 (cvS b0.toNat) 1), .int .u64 (w4 (cvS b0.toNat) 2), .int .u64 (w4 (cvS b0.toNat) 3)]), .v (.int .i64 0), .v (.int .i64 0)]) := rfl
theorem k10_22 : lk G22 22 = some (.body, norm s22) := rfl
theorem k10_23 : lk G22 23 = some (.body, norm s23) := rfl
theorem k10_24 : lk G22 24 = some (.body, norm s24) := rfl
theorem k10_25 : lk G22 25 = some (.body, norm s25) := rfl
theorem k10_26 : lk G22 26 = some (.body, norm s26) := rfl
set_option maxHeartbeats 20000000 in
theorem w10 (n : Int) (m : Int) (d : Int) (b0 b1 b2 b3 : Int) (hp : n = 3 ∧ m = 4 ∧ (0 ≤ d ∧ d ≤ 4) ∧ (0 ≤ b0 ∧ b0 < 4294967296) ∧ b1 = 0 ∧ b2 = 0 ∧ b3 = 0 ∧ ((b0.toNat / 2 ^ 23 % 2 ^ 8) = 255 → (b0.toNat % 2 ^ 23) = 0)) : awp ty G22 (code Try.f10) (retP ty Try.f10.results.toList (.many [.v (.agg #[.int .u64 (w4 (cvS b0.toNat) 0), .int .u64 (w4 (cvS b0.toNat) 1), .int .u64 (w4 (cvS b0.toNat) 2), .int .u64 (w4 (cvS b0.toNat) 3)]), .v (.int .i64 0), .v (.int .i64 0)])) (entry 0 [.v (.int .i64 n), .v (.int .i64 m), .v (.int .i64 d), .v (.agg #[.int .u64 b0, .int .u64 b1, .int .u64 b2, .int .u64 b3])]) [] := by
  unfold code
  simp only [Try.f10, Option.getD_some]
  obtain ⟨rfl, rfl, hd, hb, rfl, rfl, rfl, hN⟩ := hp
  obtain ⟨y, rfl⟩ := Int.eq_ofNat_of_zero_le hb.1
  simp only [Int.toNat_natCast] at hN ⊢
  have f1 : fp 4 = 53 := rfl
  have f2 : fx 4 = 11 := rfl
  have f3 : fe 4 = 1023 := rfl
  have g0 : decide ((blen 0 : Int) ≤ 64) = true := by decide
  have gd1 : decide (d ≥ 0) = true := by simp only [decide_eq_true_eq]; omega
  have gd2 : decide (d ≤ 4) = true := by simp only [decide_eq_true_eq]; omega
  have eC : (if y / 2 ^ 23 % 2 ^ 8 = 255 then (2 : Int) else 1) = cvC y := rfl
  have eE : (if y / 2 ^ 23 % 2 ^ 8 = 255 then 0 else -149 + max (((y / 2 ^ 23 % 2 ^ 8 : Nat) : Int) - 1) 0) = cvE y := rfl
  have hV := Nat.lt_of_lt_of_le (cvV_lt y) (show 2 ^ 24 ≤ 2 ^ 256 from Nat.pow_le_pow_right (by omega) (by omega))
  have hV53 : cvV y < 2 ^ 53 := Nat.lt_of_lt_of_le (cvV_lt y) (Nat.pow_le_pow_right (by omega) (by omega))
  have hC : (cvC y = 1 ∧ ¬ cvV y = 0) ∨ (cvC y = 1 ∧ cvV y = 0) ∨ (cvC y = 2 ∧ cvV y = 0 ∧ cvE y = 0) := by
    by_cases h : y / 2 ^ 23 % 2 ^ 8 = 255
    · exact .inr (.inr ⟨if_pos h, if_pos h, if_pos h⟩)
    · have h1 : cvC y = 1 := if_neg h
      by_cases h2 : cvV y = 0
      · exact .inr (.inl ⟨h1, h2⟩)
      · exact .inl ⟨h1, h2⟩
  have hE : -1000 ≤ cvE y ∧ cvE y ≤ 900 := by
    have h8 : y / 2 ^ 23 % 2 ^ 8 < 2 ^ 8 := Nat.mod_lt _ (Nat.two_pow_pos _)
    unfold cvE
    generalize y / 2 ^ 23 % 2 ^ 8 = E at *
    split <;> omega
  have hVV := V4_w4 hV
  have hvv : val [w4 (cvV y) 0, w4 (cvV y) 1, w4 (cvV y) 2, w4 (cvV y) 3] = cvV y := V4_w4 hV
  all_goals repeat' (first
    | ((first
       | (with_reducible refine ops_k ?_; intro X hX)
       | (with_reducible refine opsN_k ?_; intro X hX)
       | (with_reducible show awp _ _ _ _ (keepL _ _) _)
       | with_reducible refine awp_cond_k ?_
       | (with_reducible refine Brk_i ?_ ?_ <;> intro hb <;> (try simp only [hb]) <;> have hq := hb <;> try simp only [decide_eq_true_eq, decide_eq_false_iff_not, gt_iff_lt, ge_iff_le, Int.not_lt, Int.not_le, beq_iff_eq, beq_eq_false_iff_ne, Bool.not_eq_true', Bool.not_eq_false', Bool.and_eq_true, Bool.or_eq_true, Bool.and_eq_false_imp, Bool.or_eq_false_iff, ne_eq, Classical.not_not] at hq)
       | with_reducible refine retP_ret_i ?_
       | with_reducible refine retP_normal_i ?_
       | (with_reducible (show bindG _ _ _ _ _); simp only [hall])) <;> try simp only [Go.AM.S1, Go.AM.S2, Go.AM.S3, Go.AM.S4, Go.AM.S5, Go.AM.S6, Go.AM.S7, Go.AM.S8, Go.AM.S9, Nat.reduceAdd, Nat.reduceMul, Nat.reduceSub, ↓reduceIte, Nat.reduceEqDiff, Nat.reduceLT, Nat.reduceLeDiff, reduceCtorEq, Int.reduceBEq, Int.reduceBNe, Nat.reduceBEq, Int.reduceEq, Int.reduceToNat, Int.reduceLE, Int.reduceLT, Nat.reduceDiv, Int.reduceAdd, Int.reduceSub, Int.reduceMul, Int.reduceNeg, Int.reduceGT, Int.reduceGE, Nat.reduceMod, k10_22, s22_eq, k10_23, s23_eq, k10_24, s24_eq, k10_25, s25_eq, k10_26, s26_eq, ty_3, ty_4, ty_9, ty_26, ty_28, ty_29, ty_53, ty_58, cvW, eC, eE, V4_x, g0, gd1, gd2, hVV, hvv, f1, f2, f3])
    | (with_reducible refine hX _ _ ?_; clear hX X)
    | with_reducible refine ops_nil_i ?_
    | with_reducible refine opsN_nil_i ?_
    | (with_reducible refine hK _ _ ?_; clear hK K)
    | with_reducible refine thenP_normal_i ?_
    | with_reducible refine zzr8 _ _ ?_
    | with_reducible refine zzsr5 _ _ ?_
    | with_reducible refine zzr7 _ _ ?_
    | with_reducible refine zzr6 _ _ ?_
    | with_reducible refine zzr5 _ _ ?_
    | with_reducible refine zzsr2 _ _ ?_
    | with_reducible refine zzr4 _ _ ?_
    | with_reducible refine zzr3 _ _ ?_
    | with_reducible refine zzr2 _ _ ?_
    | with_reducible refine zzr1 _ _ ?_
    | with_reducible refine zzr0 _ _ ?_
    | (with_reducible refine awp_seq_l (a := .region 8 _ _) [8, 9, 10] ?_; intro Kzzr8 zzr8)
    | (with_reducible refine awp_seq_l (a := .seq (.region 5 _ _) _) [1, 2, 8, 11] ?_; intro Kzzsr5 zzsr5)
    | (with_reducible refine awp_seq_l (a := .region 7 _ _) [8, 9, 10] ?_; intro Kzzr7 zzr7)
    | (with_reducible refine awp_seq_l (a := .region 6 _ _) [1, 2, 8, 11, 15, 16, 49] ?_; intro Kzzr6 zzr6)
    | (with_reducible refine awp_seq_l (a := .region 5 _ _) [1, 2, 8, 11, 15, 16, 17] ?_; intro Kzzr5 zzr5)
    | (with_reducible refine awp_seq_l (a := .seq (.region 2 _ _) _) [1, 2, 8, 11] ?_; intro Kzzsr2 zzsr2)
    | (with_reducible refine awp_seq_l (a := .region 4 _ _) [8, 9, 10] ?_; intro Kzzr4 zzr4)
    | (with_reducible refine awp_seq_l (a := .region 3 _ _) [1, 2, 8, 11, 40] ?_; intro Kzzr3 zzr3)
    | (with_reducible refine awp_seq_l (a := .region 2 _ _) [1, 2, 8, 11, 12, 14] ?_; intro Kzzr2 zzr2)
    | (with_reducible refine awp_seq_l (a := .region 1 _ _) [1, 2, 8, 11, 12] ?_; intro Kzzr1 zzr1)
    | (with_reducible refine awp_seq_l (a := .region 0 _ _) [0, 1, 2, 7, 8] ?_; intro Kzzr0 zzr0)
    | (with_reducible refine awp_seq_k ?_; intro K hK)
    | (with_reducible refine awp_region_a ?_; intro all hall K hK)
    | (with_reducible refine awp_draw_n ?_ ?_; kernel_rfl; intro all hall K hK)
    | (with_reducible refine Chk_i ?_ ?_)
    | (with_reducible refine keysC_i ?_; kernel_rfl)
    | (with_reducible first | refine awp_block_i ?_ | refine awp_skip_i ?_ | refine awp_ret_i ?_ | refine awp_exit_i ?_ | refine thenP_ret_i ?_ | refine thenP_exit_i ?_ | refine lpP_ret_i ?_ | refine lpP_exit_i ?_ | refine unrP_succ_i ?_ | refine unrP_ret_i ?_ | refine unrP_exit_i ?_ | refine blockP_normal_i ?_ | refine blockP_ret_i ?_)
    | (with_reducible refine blockP_exit_i ?_; simp only [↓reduceIte, Nat.reduceEqDiff])
    | with_reducible refine lpP_normal_i ?_)
  all_goals first
    | omega
    | exact ⟨⟨w4_lim _ _, w4_lim _ _, w4_lim _ _, w4_lim _ _⟩, hC⟩
    | (by_cases hz : cvC y = 1 ∧ ¬ cvV y = 0
       · first
           | (rw [if_pos hz] at hb; cases hb; done)
           | (simp only [cvS, ne_eq, if_pos hz]; done)
           | exact ⟨hd, ⟨w4_lim _ _, w4_lim _ _, w4_lim _ _, w4_lim _ _⟩, ⟨Nat.pos_of_ne_zero hz.2, hV53⟩, hE.1, hE.2⟩
       · first
           | (rw [if_neg hz] at hb; cases hb; done)
           | (simp only [cvS, ne_eq, if_neg hz]; done))
theorem sound_10 : Sound Try.prog 10 .body (norm s10) := by
  refine sound_norm (sound_body Try.func10 (show Try.f10.body = some (code Try.f10) from rfl) (by kernel_rfl) tysOk G22_ok (drawOk_ok (by kernel_rfl) tysOk G22_ok) (by kernel_rfl) fun ds p r hs hp => ?_)
  unfold s10 at hs
  split at hs
  · cases hs; exact ⟨Nat.le_of_ble_eq_true (by kernel_rfl), w10 _ _ _ _ _ _ _ hp⟩
  · cases hs
noncomputable def G10 : Gam := (10, .body, norm s10) :: G22
theorem G10_ok : GamOk Try.prog G10 := gamOk_cons sound_10 G22_ok
end Go.Proofs.AMT
set_option maxRecDepth 20000
namespace Go.Proofs.AMT
open Go.AM Go.AM.LN
theorem or_add {F e P : Nat} (h : F < 2 ^ P) : F ||| e * 2 ^ P = F + e * 2 ^ P := by
  rw [Nat.or_comm, Nat.mul_comm, ← Nat.two_pow_add_eq_or_of_lt h, Nat.add_comm]
/-- A number's word. -/
theorem pack_num {S : Bool} {X : Nat} {q : Int} (h1 : 2 ^ 52 ≤ X) (h2 : X < 2 ^ 53) (h3 : -1074 ≤ q) (h4 : q ≤ 971) : packS 4 1 S X q = Ieee.double.word S ((q + 1074).toNat * 2 ^ 52 + X) := by
  have hb : blen X = 53 := blen_eq h1 h2
  have f1 : fp 4 = 53 := rfl
  have f2 : fx 4 = 11 := rfl
  have f3 : fe 4 = 1023 := rfl
  have he : eS 4 4 X q = eS 4 4 X q := rfl
  have e1 : eS 1 4 X q = q + 1075 := by
    unfold eS
    rw [if_pos rfl, if_pos (by rw [hb, f1]; rfl), f1, f3]
    omega
  have hP : (fp 4 - 1).toNat = 52 := rfl
  have hW : (fp 4 + fx 4 - 1).toNat = 63 := rfl
  have hB : packB 4 1 X q = (q + 1074).toNat * 2 ^ 52 + X := by
    unfold packB
    rw [e1, hP, Nat.mod_eq_of_lt (a := (q + 1075).toNat * 2 ^ 52)]
    · rw [or_add (Nat.mod_lt _ (Nat.two_pow_pos _))]
      have : X % 2 ^ 52 = X - 2 ^ 52 := by omega
      rw [this, show (q + 1075).toNat = (q + 1074).toNat + 1 by omega, Nat.add_mul]
      omega
    · have : (q + 1075).toNat * 2 ^ 52 ≤ 2047 * 2 ^ 52 := Nat.mul_le_mul_right _ (by omega)
      exact Nat.lt_of_le_of_lt this (by decide)
  have hlt : (q + 1074).toNat * 2 ^ 52 + X < 2 ^ 63 := by
    have : (q + 1074).toNat * 2 ^ 52 ≤ 2045 * 2 ^ 52 := Nat.mul_le_mul_right _ (by omega)
    omega
  unfold packS Ieee.Format.word
  cases S with
  | false => simpa using hB
  | true =>
    simp only [if_true]
    rw [hB, hW, show (1 * 2 ^ 63) % 2 ^ 256 = 1 * 2 ^ 63 from rfl, or_add hlt]
    have : Ieee.double.signWeight = 2 ^ 63 := rfl
    rw [this]
    omega
theorem cut0 (neg : Bool) (n : Nat) : Ieee.Toward.even.cut neg n 0 = n := by
  unfold Ieee.Toward.cut
  simp [Nat.mod_one]
/-- The model's own rounding of a number that fits. -/
theorem nearest_num {S : Bool} {V : Nat} {p : Int} (hV : 0 < V) (hl : blen V ≤ 53) (h3 : -1074 ≤ p + blen V - 53) (h4 : p + blen V - 53 ≤ 970) : Ieee.double.nearest S V p = Ieee.double.word S ((p + blen V - 53 + 1074).toNat * 2 ^ 52 + V * 2 ^ (53 - blen V)) := by
  have hlog : blen V = V.log2 + 1 := if_neg (by omega)
  have hlp : Ieee.double.leastPlace = -1074 := rfl
  have hfb : Ieee.double.fractionBits = 52 := rfl
  have hbn : Ieee.double.binade = 2 ^ 52 := rfl
  have hir : Ieee.double.infRung = 2047 * 2 ^ 52 := rfl
  unfold Ieee.Format.nearest
  rw [if_neg (by omega)]
  have hlast : max (p + (V.log2 : Int) - (Ieee.double.fractionBits : Int)) Ieee.double.leastPlace = p + blen V - 53 := by
    rw [hlp, hfb, hlog]; omega
  simp only [hlast]
  simp only [hlp, hbn, hir]
  have e1 : (p - (p + (blen V : Int) - 53)).toNat = 53 - blen V := by omega
  have e2 : (p + (blen V : Int) - 53 - p).toNat = 0 := by omega
  rw [e1, e2, cut0, Nat.shiftLeft_eq, show p + (blen V : Int) - 53 - -1074 = p + (blen V : Int) - 53 + 1074 by omega]
  have hX : blen (V * 2 ^ (53 - blen V)) = 53 := by rw [blen_mul (by omega)]; omega
  have hX2 : V * 2 ^ (53 - blen V) < 2 ^ 53 := blen_lt.1 (by omega)
  have h5 : (p + (blen V : Int) - 53 + 1074).toNat * 2 ^ 52 ≤ 2044 * 2 ^ 52 := Nat.mul_le_mul_right _ (by omega)
  rw [Nat.min_eq_left (Nat.le_trans (Nat.add_le_add h5 (Nat.le_of_lt hX2)) (by decide))]
theorem not_inf {S : Bool} {r : Nat} (h : r < 2047 * 2 ^ 52) : (Ieee.double.read (Ieee.double.word S r)).isInfinity = false := by
  have sw : Ieee.double.signWeight = 9223372036854775808 := rfl
  have bn : Ieee.double.binade = 4503599627370496 := rfl
  have ir : Ieee.double.infRung = 9218868437227405312 := rfl
  have h' : r < 9218868437227405312 := h
  have hm : Ieee.double.word S r % 9223372036854775808 = r := by
    unfold Ieee.Format.word
    rw [sw]
    split <;> omega
  unfold Ieee.Format.read
  simp only [sw, bn, ir, hm]
  split
  · rfl
  · first
      | rfl
      | (rw [if_pos h']; rfl)
theorem widen_num {S : Bool} {V : Nat} {p : Int} (hV : 0 < V) (hl : blen V ≤ 53) (h3 : -1074 ≤ p + blen V - 53) (h4 : p + blen V - 53 ≤ 970) : (if (Ieee.double.read (Ieee.double.nearest S V p)).isInfinity = true then none else some (Ieee.double.nearest S V p)) = some (packS 4 1 S (V * 2 ^ (53 - blen V)) (p + blen V - 53)) := by
  have hX : blen (V * 2 ^ (53 - blen V)) = 53 := by rw [blen_mul (by omega)]; omega
  have hX1 : 2 ^ 52 ≤ V * 2 ^ (53 - blen V) := blen_le.1 (by omega)
  have hX2 : V * 2 ^ (53 - blen V) < 2 ^ 53 := blen_lt.1 (by omega)
  have h5 : (p + (blen V : Int) - 53 + 1074).toNat * 2 ^ 52 ≤ 2044 * 2 ^ 52 := Nat.mul_le_mul_right _ (by omega)
  have h6 : (p + (blen V : Int) - 53 + 1074).toNat * 2 ^ 52 + V * 2 ^ (53 - blen V) < 2047 * 2 ^ 52 := Nat.lt_of_lt_of_le (Nat.add_lt_add_of_le_of_lt h5 hX2) (by decide)
  rw [nearest_num hV hl h3 h4, pack_num hX1 hX2 h3 (by omega), not_inf h6]
  rfl
/-- What the model makes of a float32 that is no NaN is what the program makes of it. -/
theorem widen_ok {y : Nat} (hy : y < 4294967296) (hN : y / 2 ^ 23 % 2 ^ 8 = 255 → y % 2 ^ 23 = 0) : floatToFloatBits .f32 y .f64 = some (cvS y) := by
  have sw : Ieee.single.signWeight = 2147483648 := rfl
  have bn : Ieee.single.binade = 8388608 := rfl
  have ir : Ieee.single.infRung = 2139095040 := rfl
  have lp : Ieee.single.leastPlace = -149 := rfl
  have hS : (y / 2147483648 % 2 == 1) = (y / 2 ^ 31 % 2 == 1) := rfl
  unfold floatToFloatBits
  rw [if_neg (by decide)]
  unfold FloatKind.decode FloatKind.encode
  simp only [FloatKind.format]
  by_cases hI : y / 2 ^ 23 % 2 ^ 8 = 255
  · have hF := hN hI
    have hr : Ieee.single.read y = .infinity (y / 2 ^ 31 % 2 == 1) := by
      unfold Ieee.Format.read
      simp only [sw, bn, ir]
      rw [if_neg (by omega), if_neg (by omega), if_pos (by omega)]
    rw [hr]
    have h1 : cvC y = 2 := if_pos hI
    have h2 : cvV y = 0 := if_pos hI
    have h3 : cvE y = 0 := if_pos hI
    unfold cvS
    rw [h1, h2, h3]
    generalize (y / 2 ^ 31 % 2 == 1) = S
    cases S <;> rfl
  · have h1 : cvC y = 1 := if_neg hI
    by_cases hZ : y / 2 ^ 23 % 2 ^ 8 = 0
    · have h2 : cvV y = y % 2 ^ 23 := by unfold cvV; rw [if_neg hI, if_pos hZ]
      have h3 : cvE y = -149 := by unfold cvE; rw [if_neg hI, hZ]; rfl
      have hr : Ieee.single.read y = .number (y / 2 ^ 31 % 2 == 1) (y % 2 ^ 23) (-149) := by
        unfold Ieee.Format.read
        simp only [sw, bn, ir, lp]
        rw [if_pos (by omega), show y % 2147483648 = y % 2 ^ 23 by omega]
      rw [hr]
      by_cases hF : y % 2 ^ 23 = 0
      · unfold cvS
        rw [h1, h2, hF, h3, if_neg (fun h => h.2 rfl), if_pos rfl]
        generalize (y / 2 ^ 31 % 2 == 1) = S
        cases S <;> (show _ = _; kernel_rfl)
      · have hb : blen (y % 2 ^ 23) ≤ 23 := blen_lt.2 (Nat.mod_lt _ (Nat.two_pow_pos _))
        have hb2 : 1 ≤ blen (y % 2 ^ 23) := by have := @blen_zero (y % 2 ^ 23); omega
        unfold cvS
        rw [if_pos ⟨h1, by rw [h2]; exact hF⟩, h2, h3]
        exact widen_num (Nat.pos_of_ne_zero hF) (by omega) (by omega) (by omega)
    · have hFl : y % 2 ^ 23 < 2 ^ 23 := Nat.mod_lt _ (Nat.two_pow_pos _)
      have h2 : cvV y = y % 2 ^ 23 + 1 * 2 ^ 23 := by
        unfold cvV; rw [if_neg hI, if_neg hZ, show 1 * 2 ^ 23 % 2 ^ 256 = 1 * 2 ^ 23 from rfl, or_add hFl]
      have h8 : y / 2 ^ 23 % 2 ^ 8 < 2 ^ 8 := Nat.mod_lt _ (Nat.two_pow_pos _)
      have h3 : cvE y = -149 + (((y % 2147483648) / 8388608 - 1 : Nat) : Int) := by
        unfold cvE; rw [if_neg hI]; omega
      have hr : Ieee.single.read y = .number (y / 2 ^ 31 % 2 == 1) (cvV y) (cvE y) := by
        unfold Ieee.Format.read
        simp only [sw, bn, ir, lp]
        rw [if_neg (by omega), if_pos (by omega), h2, h3, show 8388608 + y % 2147483648 % 8388608 = y % 2 ^ 23 + 1 * 2 ^ 23 by omega]
      rw [hr]
      have hb : blen (cvV y) = 24 := blen_eq (k := 23) (by rw [h2]; omega) (by rw [h2]; omega)
      have hV0 : cvV y ≠ 0 := by rw [h2]; omega
      have hE2 : -149 ≤ cvE y ∧ cvE y ≤ 110 := by rw [h3]; omega
      unfold cvS
      rw [if_pos ⟨h1, hV0⟩]
      exact widen_num (Nat.pos_of_ne_zero hV0) (by omega) (by omega) (by omega)
theorem order_ok {y : Nat} (hy : y < 4294967296) (h : FloatKind.f32.format.order y y = some .eq) : y / 2 ^ 23 % 2 ^ 8 = 255 → y % 2 ^ 23 = 0 := by
  intro hE
  apply Classical.byContradiction
  intro hF
  have sw : Ieee.single.signWeight = 2147483648 := rfl
  have bn : Ieee.single.binade = 8388608 := rfl
  have ir : Ieee.single.infRung = 2139095040 := rfl
  have hr : Ieee.single.read y = .nan (y / 2147483648 % 2 == 1) (y % 2147483648 - 2139095040) := by
    unfold Ieee.Format.read
    simp only [sw, bn, ir]
    rw [if_neg (by omega), if_neg (by omega), if_neg (by omega)]
  have h2 : (Ieee.single.read y).order (Ieee.single.read y) = some .eq := h
  rw [hr] at h2
  cases h2
theorem cvS_lt {y : Nat} (hy : y < 4294967296) (hN : y / 2 ^ 23 % 2 ^ 8 = 255 → y % 2 ^ 23 = 0) : cvS y < 18446744073709551616 := by
  have h := floatToFloatBits_wf (src := .f32) (by simp only [Lit.wf, decide_eq_true_eq]; omega) (widen_ok hy hN)
  simpa [Lit.wf] using h
end Go.Proofs.AMT
set_option maxRecDepth 100000
namespace Go.Proofs.AMT
open Go.AM
noncomputable def awakeR : Option (Prop × Res) := (lk (GamN ty 1000 bodies extB 25) 8).bind fun s => s.2 []
theorem awake_run : awakeR = some (True, .one (.v (.bool true))) := by kernel_rfl
def sAwake : CSpec := fun ds => match ds with
  | [] => some (True, .one (.v (.bool true)))
  | _ => none
theorem sAwake_eq : sAwake [] = some (True, .one (.v (.bool true))) := rfl
theorem sound_8 : Sound Try.prog 8 .body sAwake := by
  have hg := (GamN_ok (fuel := 1000) (P := Try.prog) (by kernel_rfl) tysOk extB_ok extB_free bodies_ok bodies_some 25).1
  have h := awake_run
  unfold awakeR at h
  obtain ⟨⟨fk, spec⟩, h1, h2⟩ := Option.bind_eq_some_iff.1 h
  have hs := hg 8 fk spec h1
  have hfk : fk = .body := by
    have : (lk (GamN ty 1000 bodies extB 25) 8).map (·.1) = some .body := by kernel_rfl
    rw [h1] at this
    exact Option.some.inj this
  subst hfk
  refine sound_weaken hs fun ds p r h3 h4 => ?_
  unfold sAwake at h3
  split at h3
  · cases h3; exact ⟨True, h2, trivial⟩
  · cases h3
end Go.Proofs.AMT
set_option maxRecDepth 20000
namespace Go.Proofs.AMT
open Go.AM Go.AM.LN
attribute [local congr] bindO_congr bindS_congr bindG_congr awpOps_congr aOne_congr awp_congr aCond_congr awpD_congr dOne_congr keysB_congr nOne_congr thenP_congr blockP_congr Chk_congr Brk_congr
noncomputable def G8 : Gam := (8, .body, sAwake) :: G10
theorem G8_ok : GamOk Try.prog G8 := gamOk_cons sound_8 G10_ok
noncomputable def s3 : CSpec := fun ds => match ds with
  | [.v (.int .u32 y), .v (.int .i64 d)] => some ((0 ≤ y ∧ y < 4294967296) ∧ -9223372036854775808 ≤ d ∧ d ≤ 9223372036854775807, .one (.v (.bool true)))
  | _ => none
theorem s3_eq (y : Int) (d : Int) : norm s3 [.v (.int .u32 y), .v (.int .i64 d)] = some ((0 ≤ y ∧ y < 4294967296) ∧ -9223372036854775808 ≤ d ∧ d ≤ 9223372036854775807, .one (.v (.bool true))) := rfl
theorem k3_8 : lk G8 8 = some (.body, sAwake) := rfl
theorem k3_9 : lk G8 9 = some (.ext, sF32from) := rfl
theorem k3_10 : lk G8 10 = some (.body, norm s10) := rfl
theorem k3_11 : lk G8 11 = some (.ext, sF64bits) := rfl
set_option maxHeartbeats 20000000 in
theorem w3 (y : Int) (d : Int) (hp : (0 ≤ y ∧ y < 4294967296) ∧ -9223372036854775808 ≤ d ∧ d ≤ 9223372036854775807) : awp ty G8 (code Try.f3) (retP ty Try.f3.results.toList (.one (.v (.bool true)))) (entry 0 [.v (.int .u32 y), .v (.int .i64 d)]) [] := by
  unfold code
  simp only [Try.f3, Option.getD_some]
  obtain ⟨y, rfl⟩ := Int.eq_ofNat_of_zero_le hp.1.1
  have e4 : (y : Int) % 18446744073709551616 = (y : Int) := by omega
  rcases Classical.em (FloatKind.f32.format.order y y = some .eq) with hO | hO
  all_goals first
    | (have gO : (FloatKind.f32.format.order y y == some .eq) = true := by rw [hO]; rfl)
    | (have gO : (FloatKind.f32.format.order y y == some .eq) = false := by simpa using hO)
  all_goals first
    | (have hN := order_ok (by omega) hO
       have hw := widen_ok (by omega) hN
       have hl := cvS_lt (by omega) hN
       have w0 : w4 (cvS y) 0 = (cvS y : Int) := w4_small hl
       have w1 : w4 (cvS y) 1 = 0 := by unfold w4; rw [show 2 ^ (64 * 1) = 18446744073709551616 from rfl, Nat.div_eq_of_lt hl]; rfl
       have w2 : w4 (cvS y) 2 = 0 := by unfold w4; rw [Nat.div_eq_of_lt (Nat.lt_of_lt_of_le hl (by decide))]; rfl
       have w3 : w4 (cvS y) 3 = 0 := by unfold w4; rw [Nat.div_eq_of_lt (Nat.lt_of_lt_of_le hl (by decide))]; rfl)
    | (have hw : decide ((4 : Int) ≥ 5) = false := rfl
       have w0 : decide ((4 : Int) ≥ 5) = false := rfl
       have w1 : decide ((4 : Int) ≥ 5) = false := rfl
       have w2 : decide ((4 : Int) ≥ 5) = false := rfl
       have w3 : decide ((4 : Int) ≥ 5) = false := rfl)
  all_goals repeat' (first
    | ((first
       | (with_reducible refine ops_k ?_; intro X hX)
       | (with_reducible refine opsN_k ?_; intro X hX)
       | (with_reducible show awp _ _ _ _ (keepL _ _) _)
       | with_reducible refine awp_cond_k ?_
       | (with_reducible refine Brk_i ?_ ?_ <;> intro hb <;> (try simp only [hb]) <;> have hq := hb <;> try simp only [decide_eq_true_eq, decide_eq_false_iff_not, gt_iff_lt, ge_iff_le, Int.not_lt, Int.not_le, beq_iff_eq, beq_eq_false_iff_ne, Bool.not_eq_true', Bool.not_eq_false', Bool.and_eq_true, Bool.or_eq_true, Bool.and_eq_false_imp, Bool.or_eq_false_iff, ne_eq, Classical.not_not] at hq)
       | with_reducible refine retP_ret_i ?_
       | with_reducible refine retP_normal_i ?_
       | (with_reducible (show bindG _ _ _ _ _); simp only [hall])) <;> try simp only [Go.AM.S1, Go.AM.S2, Go.AM.S3, Go.AM.S4, Go.AM.S5, Go.AM.S6, Go.AM.S7, Go.AM.S8, Go.AM.S9, Nat.reduceAdd, Nat.reduceMul, Nat.reduceSub, ↓reduceIte, Nat.reduceEqDiff, Nat.reduceLT, Nat.reduceLeDiff, reduceCtorEq, Int.reduceBEq, Int.reduceBNe, Nat.reduceBEq, Int.reduceEq, Int.reduceToNat, Int.reduceLE, Int.reduceLT, Nat.reduceDiv, Int.reduceAdd, Int.reduceSub, Int.reduceMul, Int.reduceNeg, Int.reduceGT, Int.reduceGE, Nat.reduceMod, k3_8, sAwake_eq, k3_9, sF32from_eq, k3_10, s10_eq, k3_11, sF64bits_eq, ty_3, ty_4, ty_22, ty_24, ty_26, ty_28, ty_29, ty_33, gO, hw, w0, w1, w2, w3, e4])
    | (with_reducible refine hX _ _ ?_; clear hX X)
    | with_reducible refine ops_nil_i ?_
    | with_reducible refine opsN_nil_i ?_
    | (with_reducible refine hK _ _ ?_; clear hK K)
    | with_reducible refine thenP_normal_i ?_
    | with_reducible refine zzr7 _ _ ?_
    | with_reducible refine zzr6 _ _ ?_
    | with_reducible refine zzsr4 _ _ ?_
    | with_reducible refine zzr5 _ _ ?_
    | with_reducible refine zzr4 _ _ ?_
    | with_reducible refine zzr3 _ _ ?_
    | with_reducible refine zzsr1 _ _ ?_
    | with_reducible refine zzr2 _ _ ?_
    | with_reducible refine zzr1 _ _ ?_
    | with_reducible refine zzr0 _ _ ?_
    | (with_reducible refine awp_seq_l (a := .region 7 _ _) [4] ?_; intro Kzzr7 zzr7)
    | (with_reducible refine awp_seq_l (a := .region 6 _ _) [5, 6, 7, 8] ?_; intro Kzzr6 zzr6)
    | (with_reducible refine awp_seq_l (a := .seq (.region 4 _ _) _) [0, 1, 5] ?_; intro Kzzsr4 zzsr4)
    | (with_reducible refine awp_seq_l (a := .region 5 _ _) [4] ?_; intro Kzzr5 zzr5)
    | (with_reducible refine awp_seq_l (a := .region 4 _ _) [0, 1, 5, 23] ?_; intro Kzzr4 zzr4)
    | (with_reducible refine awp_seq_l (a := .region 3 _ _) [0, 1, 5] ?_; intro Kzzr3 zzr3)
    | (with_reducible refine awp_seq_l (a := .seq (.region 1 _ _) _) [0, 1] ?_; intro Kzzsr1 zzsr1)
    | (with_reducible refine awp_seq_l (a := .region 2 _ _) [4] ?_; intro Kzzr2 zzr2)
    | (with_reducible refine awp_seq_l (a := .region 1 _ _) [0, 1, 10] ?_; intro Kzzr1 zzr1)
    | (with_reducible refine awp_seq_l (a := .region 0 _ _) [0, 1] ?_; intro Kzzr0 zzr0)
    | (with_reducible refine awp_seq_k ?_; intro K hK)
    | (with_reducible refine awp_region_a ?_; intro all hall K hK)
    | (with_reducible refine awp_draw_n ?_ ?_; kernel_rfl; intro all hall K hK)
    | (with_reducible refine Chk_i ?_ ?_)
    | (with_reducible refine keysC_i ?_; kernel_rfl)
    | (with_reducible first | refine awp_block_i ?_ | refine awp_skip_i ?_ | refine awp_ret_i ?_ | refine awp_exit_i ?_ | refine thenP_ret_i ?_ | refine thenP_exit_i ?_ | refine lpP_ret_i ?_ | refine lpP_exit_i ?_ | refine unrP_succ_i ?_ | refine unrP_ret_i ?_ | refine unrP_exit_i ?_ | refine blockP_normal_i ?_ | refine blockP_ret_i ?_)
    | (with_reducible refine blockP_exit_i ?_; simp only [↓reduceIte, Nat.reduceEqDiff])
    | with_reducible refine lpP_normal_i ?_)
  all_goals first
    | omega
    | exact ⟨⟨by omega, by omega⟩, ⟨by omega, by omega⟩, hN⟩
    | skip
theorem sound_3 : Sound Try.prog 3 .body (norm s3) := by
  refine sound_norm (sound_body Try.func3 (show Try.f3.body = some (code Try.f3) from rfl) (by kernel_rfl) tysOk G8_ok (drawOk_ok (by kernel_rfl) tysOk G8_ok) (by kernel_rfl) fun ds p r hs hp => ?_)
  unfold s3 at hs
  split at hs
  · cases hs; exact ⟨Nat.le_of_ble_eq_true (by kernel_rfl), w3 _ _ hp⟩
  · cases hs
noncomputable def G3 : Gam := (3, .body, norm s3) :: G8
theorem G3_ok : GamOk Try.prog G3 := gamOk_cons sound_3 G8_ok
end Go.Proofs.AMT
