/- Part 7 of the proof: own text (FmathbitsLeadingZeros64, FmathbitsDiv64, Fnatword, ZS, ZF, ZD, ZW, Fgrammartext, Fgrammarbare, FgrammarOthers). -/
import Derived.Shelf.Lay
import Derived.KernelRfl
import Derived.Shelf.LaySoft
import Derived.Shelf.Strings.Builder1
import Derived.Shelf.Strings.Builder2
import Derived.Shelf.Strings.OnBuilder
import Derived.Shelf.Strings.Trim
import Derived.Shelf.Small.Utf8
import Derived.Shelf.Small.Bits
import Derived.Shelf.Small.Strs
import Derived.Shelf.Strings.BuilderF
import Derived.Shelf.Strconv.Itoa0
import Derived.Shelf.Strconv.Itoa1
import Derived.Shelf.LaysM
import Derived.Shelf.Strconv.Itoa2
import Derived.Shelf.Strconv.Itoa3
import Derived.Shelf.Strings.Search1
import Derived.Shelf.Strings.Prefix
import Derived.Shelf.Unicode.Decode
import Derived.Shelf.Strings.Runes
import Derived.Shelf.Strings.AsciiSet
import Derived.Shelf.Bits.Mul64
import Derived.Shelf.Strings.Repeat
import Derived.Shelf.Unicode.DecodeSlow
import Derived.Shelf.Unicode.DecodeAny
import Derived.Ground.Names2Prog
import Derived.Shelf.Slices.ReverseS
import Derived.Shelf.Slices.Cells
import Derived.Ground.SlgnProg
import Derived.Shelf.SlicesE.Clone
import Derived.Test.YtknejocjkjpfmaaGreatDoorProg
import Derived.Lib.Walk
import Derived.Lib.ItoaMem
import Derived.Lib.OwnBridge
import Derived.WalkKit
import Derived.BigCall
import Derived.BigGuard
import Derived.Maps.AppendAt
import Derived.Lib.Buffer
import Derived.Laws.OwnMore
import Derived.Test.YtknejocjkjpfmaaGreatDoorK0
import Derived.Test.YtknejocjkjpfmaaGreatDoorK1
import Derived.Test.YtknejocjkjpfmaaGreatDoorK2
import Derived.Test.YtknejocjkjpfmaaGreatDoorK3
import Derived.Test.YtknejocjkjpfmaaGreatDoorK4
import Derived.Test.YtknejocjkjpfmaaGreatDoorK5
import Derived.Test.YtknejocjkjpfmaaGreatDoorK6
set_option linter.all false
set_option maxRecDepth 20000
namespace Go.Proofs.AMT
open Go.AM Go.AM.LN
attribute [local congr] bindO_congr bindS_congr bindG_congr awpOps_congr aOne_congr awp_congr aCond_congr awpD_congr dOne_congr keysB_congr nOne_congr thenP_congr blockP_congr Chk_congr Brk_congr
noncomputable def s82 : CSpec := fun ds => match ds with
  | [.v (.int .u64 x)] => some (0 ≤ x ∧ x < 18446744073709551616, .one (.v (.int .i64 (64 - blen x.toNat))))
  | _ => none
theorem s82_eq (x : Int) : norm s82 [.v (.int .u64 x)] = some (0 ≤ x ∧ x < 18446744073709551616, .one (.v (.int .i64 (64 - blen x.toNat)))) := rfl
noncomputable def G82 : Gam := [(26, .body, norm s26)]
theorem G82_ok : GamOk Tryz.prog G82 := gamOk_cons sound_26 gamOk_nil
theorem k82_26 : lk G82 26 = some (.body, norm s26) := rfl
set_option maxHeartbeats 20000000 in
theorem wk82 (x : Int) (hp : 0 ≤ x ∧ x < 18446744073709551616) : awp ty G82 (code Tryz.f82) (retP ty Tryz.f82.results.toList (.one (.v (.int .i64 (64 - blen x.toNat))))) (entry 0 [.v (.int .u64 x)]) [] := by
  unfold code
  simp only [Tryz.f82, Option.getD_some]
  all_goals repeat' (first
    | ((first
       | (with_reducible refine ops_k ?_; intro X hX)
       | (with_reducible refine opsN_k ?_; intro X hX)
       | (with_reducible show awp _ _ _ _ (keepL _ _) _)
       | with_reducible refine awp_cond_k ?_
       | (with_reducible refine Brk_i ?_ ?_ <;> intro hb <;> (try simp only [hb]) <;> have hq := hb <;> try simp only [decide_eq_true_eq, decide_eq_false_iff_not, gt_iff_lt, ge_iff_le, Int.not_lt, Int.not_le, beq_iff_eq, beq_eq_false_iff_ne, Bool.not_eq_true', Bool.not_eq_false', Bool.and_eq_true, Bool.or_eq_true, Bool.and_eq_false_imp, Bool.or_eq_false_iff, ne_eq, Classical.not_not] at hq)
       | with_reducible refine retP_ret_i ?_
       | with_reducible refine retP_normal_i ?_
       | (with_reducible (show bindG _ _ _ _ _); simp only [hall])) <;> try simp only [Go.AM.S1, Go.AM.S2, Go.AM.S3, Go.AM.S4, Go.AM.S5, Go.AM.S6, Go.AM.S7, Go.AM.S8, Go.AM.S9, Nat.reduceAdd, Nat.reduceMul, Nat.reduceSub, ↓reduceIte, Nat.reduceEqDiff, Nat.reduceLT, Nat.reduceLeDiff, reduceCtorEq, Int.reduceBEq, Int.reduceBNe, Nat.reduceBEq, Int.reduceEq, Int.reduceToNat, Int.reduceLE, Int.reduceLT, Nat.reduceDiv, Int.reduceAdd, Int.reduceSub, Int.reduceMul, Int.reduceNeg, Int.reduceGT, Int.reduceGE, Nat.reduceMod, k82_26, s26_eq, ty_3, ty_22])
    | (with_reducible refine hX _ _ ?_; clear hX X)
    | (with_reducible refine ops_nil_i ?_; try clear hall all)
    | (with_reducible refine opsN_nil_i ?_; try clear hall all)
    | (with_reducible refine hK _ _ ?_; clear hK K)
    | with_reducible refine thenP_normal_i ?_
    | (with_reducible refine zzr1 _ _ ?_; try clear zzr1 Kzzr1)
    | (with_reducible refine zzr0 _ _ ?_; try clear zzr0 Kzzr0)
    | (with_reducible refine awp_seq_l (a := .region 1 _ _) [2] ?_; intro Kzzr1 zzr1)
    | (with_reducible refine awp_seq_l (a := .region 0 _ _) [0] ?_; intro Kzzr0 zzr0)
    | (with_reducible refine awp_seq_k ?_; intro K hK)
    | (with_reducible refine awp_region_a ?_; intro all hall K hK)
    | (with_reducible refine awp_draw_n ?_ ?_; kernel_rfl; intro all hall K hK)
    | (with_reducible refine Chk_i ?_ ?_)
    | (with_reducible refine keysC_i ?_; kernel_rfl)
    | (with_reducible first | refine awp_block_i ?_ | refine awp_skip_i ?_ | refine awp_ret_i ?_ | refine awp_exit_i ?_ | refine thenP_ret_i ?_ | refine thenP_exit_i ?_ | refine lpP_ret_i ?_ | refine lpP_exit_i ?_ | refine unrP_succ_i ?_ | refine unrP_ret_i ?_ | refine unrP_exit_i ?_ | refine blockP_normal_i ?_ | refine blockP_ret_i ?_)
    | (with_reducible refine blockP_exit_i ?_; simp only [↓reduceIte, Nat.reduceEqDiff])
    | with_reducible refine lpP_normal_i ?_)
  all_goals (try clear zzr0; try clear Kzzr0)
  all_goals (try clear zzr1; try clear Kzzr1)
  all_goals (try simp only [inR])
  all_goals (have h1 : blen x.toNat ≤ 64 := blen_lt.2 (by omega))
  all_goals omega
theorem sound_82 : Sound Tryz.prog 82 .body (norm s82) := by
  refine sound_norm (sound_body Tryz.func82 (show Tryz.f82.body = some (code Tryz.f82) from rfl) (by kernel_rfl) tysOk G82_ok (drawOk_ok (by kernel_rfl) tysOk G82_ok) (by kernel_rfl) fun ds p r hs hp => ?_)
  unfold s82 at hs
  split at hs
  · cases hs; exact ⟨Nat.le_of_ble_eq_true (by kernel_rfl), wk82 _ hp⟩
  · cases hs
end Go.Proofs.AMT
set_option maxRecDepth 20000
namespace Go.Proofs.AMT
open Go.AM Go.AM.LN
attribute [local congr] bindO_congr bindS_congr bindG_congr awpOps_congr aOne_congr awp_congr aCond_congr awpD_congr dOne_congr keysB_congr nOne_congr thenP_congr blockP_congr Chk_congr Brk_congr
noncomputable def s65 : CSpec := fun ds => match ds with
  | [.v (.int .u64 h), .v (.int .u64 l), .v (.int .u64 y)] => some ((0 ≤ h ∧ h < y) ∧ (0 ≤ l ∧ l < 18446744073709551616) ∧ 0 < y ∧ y < 18446744073709551616, .many [.v (.int .u64 ((h.toNat * 18446744073709551616 + l.toNat) / y.toNat : Nat)), .v (.int .u64 ((h.toNat * 18446744073709551616 + l.toNat) % y.toNat : Nat))])
  | _ => none
theorem s65_eq (h : Int) (l : Int) (y : Int) : norm s65 [.v (.int .u64 h), .v (.int .u64 l), .v (.int .u64 y)] = some ((0 ≤ h ∧ h < y) ∧ (0 ≤ l ∧ l < 18446744073709551616) ∧ 0 < y ∧ y < 18446744073709551616, .many [.v (.int .u64 ((h.toNat * 18446744073709551616 + l.toNat) / y.toNat : Nat)), .v (.int .u64 ((h.toNat * 18446744073709551616 + l.toNat) % y.toNat : Nat))]) := rfl
noncomputable def G65 : Gam := [(82, .body, norm s82)]
theorem G65_ok : GamOk Tryz.prog G65 := gamOk_cons sound_82 gamOk_nil
theorem k65_82 : lk G65 82 = some (.body, norm s82) := rfl
set_option maxHeartbeats 20000000 in
theorem wk65 (h : Int) (l : Int) (y : Int) (hp : (0 ≤ h ∧ h < y) ∧ (0 ≤ l ∧ l < 18446744073709551616) ∧ 0 < y ∧ y < 18446744073709551616) : awp ty G65 (code Tryz.f65) (retP ty Tryz.f65.results.toList (.many [.v (.int .u64 ((h.toNat * 18446744073709551616 + l.toNat) / y.toNat : Nat)), .v (.int .u64 ((h.toNat * 18446744073709551616 + l.toNat) % y.toNat : Nat))])) (entry 0 [.v (.int .u64 h), .v (.int .u64 l), .v (.int .u64 y)]) [] := by
  unfold code
  simp only [Tryz.f65, Option.getD_some]
  obtain ⟨h, rfl⟩ := Int.eq_ofNat_of_zero_le hp.1.1
  obtain ⟨l, rfl⟩ := Int.eq_ofNat_of_zero_le hp.2.1.1
  obtain ⟨y, rfl⟩ := Int.eq_ofNat_of_zero_le (show 0 ≤ y by omega)
  have g1 : ((y : Int) == 0) = false := by simp only [beq_eq_false_iff_ne, ne_eq]; omega
  have g2 : decide ((y : Int) ≤ (h : Int)) = false := by simp only [decide_eq_false_iff_not]; omega
  obtain ⟨s, hse⟩ : ∃ s, 64 - blen y = s := ⟨_, rfl⟩
  obtain ⟨Y, y1, y0, u, n1, n0, Q1, R1, Q0, R0, D⟩ := d64_mk (h := h) (l := l) (y := y) (s := s) (by omega) (by omega) (by omega) (by omega) hse
  have hbl : blen y ≤ 64 := blen_lt.2 (by omega)
  have c1 : (64 - (blen y : Int)) % 18446744073709551616 = (s : Int) := by omega
  have hs63 := D.hs
  have m1 : min s 64 = s := by omega
  have m2 : ((64 - (s : Int)) % 18446744073709551616).toNat = 64 - s := by omega
  have m3 : min (64 - s) 64 = 64 - s := by omega
  have e2 : (y : Int) * 2 ^ s % 18446744073709551616 = (Y : Int) := by rw [castShl, D.hY, Nat.mod_eq_of_lt D.hYl.2]
  have e9 : (Y : Int) / 4294967296 = (y1 : Int) := by have := D.hy1; omega
  have e10 : AM.bits .and .u64 (Y : Int) 4294967295 = (y0 : Int) := by rw [and32 D.hYl.2, D.hy0]
  have e11 : AM.bits .or .u64 ((h : Int) * 2 ^ s % 18446744073709551616) ((l : Int) / 2 ^ (64 - s)) = (u : Int) := by
    rw [shl_word ⟨by omega, by omega⟩ ⟨by omega, by omega⟩ (by omega), Int.toNat_natCast, Int.toNat_natCast, D.hu]
  obtain ⟨w, hw⟩ : ∃ w, l * 2 ^ s % 18446744073709551616 = w := ⟨_, rfl⟩
  have hwl : w < 18446744073709551616 := by rw [← hw]; exact Nat.mod_lt _ (Nat.lt_of_lt_of_eq (Nat.two_pow_pos 64) rfl)
  have e12 : (l : Int) * 2 ^ s % 18446744073709551616 = (w : Int) := by rw [castShl, hw]
  have e13 : (w : Int) / 4294967296 = (n1 : Int) := by have := D.n1e; rw [hw] at this; omega
  have e14 : AM.bits .and .u64 (w : Int) 4294967295 = (n0 : Int) := by have := D.n0e; rw [hw] at this; rw [and32 hwl, this]
  have y1p : ((y1 : Int) == 0) = false := by have := D.y1l; simp only [beq_eq_false_iff_ne, ne_eq]; omega
  have ul := D.hul
  have Yl := D.hYl
  have y1l := D.y1l
  have y0l := D.y0l
  have n1l := D.n1l
  have n0l := D.n0l
  have R1e := D.R1e
  have R1l := D.R1l
  have R0e := D.R0e
  have R0l := D.R0l
  have Q1l := D.Q1l
  have Q0l := D.Q0l
  have Ye := D.Ye
  obtain ⟨i1, i2, i3, i4⟩ := kn_init (y1 := y1) (y0 := y0) (u := u) (n := n1) y1l.1 y0l n1l (by omega)
  rw [D.Q1e] at i1
  obtain ⟨j1, j2, j3, j4⟩ := kn_init (y1 := y1) (y0 := y0) (u := R1) (n := n0) y1l.1 y0l n0l (by omega)
  rw [D.Q0e] at j1
  have t1 : (u : Int).tdiv (y1 : Int) = ((u / y1 : Nat) : Int) := by rw [Int.tdiv_eq_ediv_of_nonneg (by omega)]; rfl
  have t2 : (R1 : Int).tdiv (y1 : Int) = ((R1 / y1 : Nat) : Int) := by rw [Int.tdiv_eq_ediv_of_nonneg (by omega)]; rfl
  have lt1 : (l : Int).tdiv (y : Int) = ((l / y : Nat) : Int) := by rw [Int.tdiv_eq_ediv_of_nonneg (by omega)]; rfl
  have lt2 : (l : Int).tmod (y : Int) = ((l % y : Nat) : Int) := by rw [Int.tmod_eq_emod_of_nonneg (by omega)]; rfl
  have quo := D.quo
  have rem := D.rem
  have kQ1 : ∀ {q r : Nat}, (q * y0 ≤ 4294967296 * r + n1 ∨ (q ≤ 4294967296 ∧ 4294967296 ≤ r)) → u = q * y1 + r → Q1 ≤ q → Q1 = q := fun hh he hq => by
    rcases hh with hh | ⟨h1, h2⟩
    · have := kn_fin y1l.1 he hh (by rw [D.Q1e]; exact hq); rw [D.Q1e] at this; exact this
    · have := kn_brk (n := n1) y1l.1 y0l he h1 h2 (by rw [D.Q1e]; exact hq); rw [D.Q1e] at this; exact this
  have kQ0 : ∀ {q r : Nat}, (q * y0 ≤ 4294967296 * r + n0 ∨ (q ≤ 4294967296 ∧ 4294967296 ≤ r)) → R1 = q * y1 + r → Q0 ≤ q → Q0 = q := fun hh he hq => by
    rcases hh with hh | ⟨h1, h2⟩
    · have := kn_fin y1l.1 he hh (by rw [D.Q0e]; exact hq); rw [D.Q0e] at this; exact this
    · have := kn_brk (n := n0) y1l.1 y0l he h1 h2 (by rw [D.Q0e]; exact hq); rw [D.Q0e] at this; exact this
  have kD1 : ∀ {q r : Nat}, (4294967296 ≤ q ∨ 4294967296 * r + n1 < q * y0) → u = q * y1 + r → Q1 ≤ q → Q1 ≤ q - 1 ∧ 1 ≤ q ∧ u = (q - 1) * y1 + (r + y1) := fun hh he hq => by
    have := kn_dec y1l.1 y0l n1l (by omega) he hh (by rw [D.Q1e]; exact hq); rw [D.Q1e] at this; exact this
  have kD0 : ∀ {q r : Nat}, (4294967296 ≤ q ∨ 4294967296 * r + n0 < q * y0) → R1 = q * y1 + r → Q0 ≤ q → Q0 ≤ q - 1 ∧ 1 ≤ q ∧ R1 = (q - 1) * y1 + (r + y1) := fun hh he hq => by
    have := kn_dec y1l.1 y0l n0l (by omega) he hh (by rw [D.Q0e]; exact hq); rw [D.Q0e] at this; exact this
  have i3' : (u : Int) = ((u / y1 : Nat) : Int) * (y1 : Int) + ((u % y1 : Nat) : Int) := by exact_mod_cast i3
  have j3' : (R1 : Int) = ((R1 / y1 : Nat) : Int) * (y1 : Int) + ((R1 % y1 : Nat) : Int) := by exact_mod_cast j3
  have R1e' : (u : Int) * 4294967296 + (n1 : Int) = (Q1 : Int) * (Y : Int) + (R1 : Int) := by omega
  have R0e' : (R1 : Int) * 4294967296 + (n0 : Int) = (Q0 : Int) * (Y : Int) + (R0 : Int) := by omega
  have e16 : ((u : Int) - ((u / y1 : Nat) : Int) * (y1 : Int) % 18446744073709551616) % 18446744073709551616 = ((u % y1 : Nat) : Int) := by omega
  have e17 : (((u : Int) * 4294967296 % 18446744073709551616 + (n1 : Int)) % 18446744073709551616 - (Q1 : Int) * (Y : Int) % 18446744073709551616) % 18446744073709551616 = (R1 : Int) := by omega
  have e19 : ((R1 : Int) - ((R1 / y1 : Nat) : Int) * (y1 : Int) % 18446744073709551616) % 18446744073709551616 = ((R1 % y1 : Nat) : Int) := by omega
  have e6 : ((Q1 : Int) * 4294967296 % 18446744073709551616 + (Q0 : Int)) % 18446744073709551616 = (((h * 18446744073709551616 + l) / y : Nat) : Int) := by rw [← quo]; omega
  have e7a : (((R1 : Int) * 4294967296 % 18446744073709551616 + (n0 : Int)) % 18446744073709551616 - (Q0 : Int) * (Y : Int) % 18446744073709551616) % 18446744073709551616 = (R0 : Int) := by omega
  have e7 : (R0 : Int) / 2 ^ s = (((h * 18446744073709551616 + l) % y : Nat) : Int) := by rw [← rem, castShr]
  clear D R1e R0e i3' j3' R1e' R0e' quo rem
  all_goals repeat' (first
    | ((first
       | (with_reducible refine ops_k ?_; intro X hX)
       | (with_reducible refine opsN_k ?_; intro X hX)
       | (with_reducible show awp _ _ _ _ (keepL _ _) _)
       | with_reducible refine awp_cond_k ?_
       | (with_reducible refine Brk_i ?_ ?_ <;> intro hb <;> (try simp only [hb]) <;> have hq := hb <;> try simp only [decide_eq_true_eq, decide_eq_false_iff_not, gt_iff_lt, ge_iff_le, Int.not_lt, Int.not_le, beq_iff_eq, beq_eq_false_iff_ne, Bool.not_eq_true', Bool.not_eq_false', Bool.and_eq_true, Bool.or_eq_true, Bool.and_eq_false_imp, Bool.or_eq_false_iff, ne_eq, Classical.not_not] at hq)
       | with_reducible refine retP_ret_i ?_
       | with_reducible refine retP_normal_i ?_
       | (with_reducible (show bindG _ _ _ _ _); simp only [hall])) <;> try simp only [Go.AM.S1, Go.AM.S2, Go.AM.S3, Go.AM.S4, Go.AM.S5, Go.AM.S6, Go.AM.S7, Go.AM.S8, Go.AM.S9, Nat.reduceAdd, Nat.reduceMul, Nat.reduceSub, ↓reduceIte, Nat.reduceEqDiff, Nat.reduceLT, Nat.reduceLeDiff, reduceCtorEq, Int.reduceBEq, Int.reduceBNe, Nat.reduceBEq, Int.reduceEq, Int.reduceToNat, Int.reduceLE, Int.reduceLT, Nat.reduceDiv, Int.reduceAdd, Int.reduceSub, Int.reduceMul, Int.reduceNeg, Int.reduceGT, Int.reduceGE, Nat.reduceMod, k65_82, s82_eq, ty_3, ty_22, ty_37, g1, g2, c1, IntKind.bits, m1, m2, m3, minLit, Int.reducePow, e2, e9, e10, e11, e12, e13, e14, y1p, t1, t2, lt1, lt2, e16, e17, e19, e6, e7a, e7])
    | (with_reducible refine hX _ _ ?_; clear hX X)
    | (with_reducible refine ops_nil_i ?_; try clear hall all)
    | (with_reducible refine opsN_nil_i ?_; try clear hall all)
    | (with_reducible refine hK _ _ ?_; clear hK K)
    | with_reducible refine thenP_normal_i ?_
    | (with_reducible refine zzr28 _ _ ?_; try clear zzr28 Kzzr28)
    | (with_reducible refine zzb2 _ _ ?_; try clear zzb2 Kzzb2)
    | (with_reducible refine zzr27 _ _ ?_; try clear zzr27 Kzzr27)
    | (with_reducible refine zzr26 _ _ ?_; try clear zzr26 Kzzr26)
    | (with_reducible refine zzr25 _ _ ?_; try clear zzr25 Kzzr25)
    | (with_reducible refine zzsr24 _ _ ?_; try clear zzsr24 Kzzsr24)
    | (with_reducible refine zzr24 _ _ ?_; try clear zzr24 Kzzr24)
    | (with_reducible refine zzr23 _ _ ?_; try clear zzr23 Kzzr23)
    | (with_reducible refine zzr22 _ _ ?_; try clear zzr22 Kzzr22)
    | (with_reducible refine zzr21 _ _ ?_; try clear zzr21 Kzzr21)
    | (with_reducible refine zzb0 _ _ ?_; try clear zzb0 Kzzb0)
    | (with_reducible refine zzr20 _ _ ?_; try clear zzr20 Kzzr20)
    | (with_reducible refine zzr19 _ _ ?_; try clear zzr19 Kzzr19)
    | (with_reducible refine zzr18 _ _ ?_; try clear zzr18 Kzzr18)
    | (with_reducible refine zzsr17 _ _ ?_; try clear zzsr17 Kzzsr17)
    | (with_reducible refine zzr17 _ _ ?_; try clear zzr17 Kzzr17)
    | (with_reducible refine zzr16 _ _ ?_; try clear zzr16 Kzzr16)
    | (with_reducible refine zzr15 _ _ ?_; try clear zzr15 Kzzr15)
    | (with_reducible refine zzr14 _ _ ?_; try clear zzr14 Kzzr14)
    | (with_reducible refine zzr13 _ _ ?_; try clear zzr13 Kzzr13)
    | (with_reducible refine zzr12 _ _ ?_; try clear zzr12 Kzzr12)
    | (with_reducible refine zzr11 _ _ ?_; try clear zzr11 Kzzr11)
    | (with_reducible refine zzr10 _ _ ?_; try clear zzr10 Kzzr10)
    | (with_reducible refine zzr9 _ _ ?_; try clear zzr9 Kzzr9)
    | (with_reducible refine zzr8 _ _ ?_; try clear zzr8 Kzzr8)
    | (with_reducible refine zzr7 _ _ ?_; try clear zzr7 Kzzr7)
    | (with_reducible refine zzsr5 _ _ ?_; try clear zzsr5 Kzzsr5)
    | (with_reducible refine zzr6 _ _ ?_; try clear zzr6 Kzzr6)
    | (with_reducible refine zzr5 _ _ ?_; try clear zzr5 Kzzr5)
    | (with_reducible refine zzsr3 _ _ ?_; try clear zzsr3 Kzzsr3)
    | (with_reducible refine zzr3 _ _ ?_; try clear zzr3 Kzzr3)
    | (with_reducible refine zzsr1 _ _ ?_; try clear zzsr1 Kzzsr1)
    | (with_reducible refine zzr1 _ _ ?_; try clear zzr1 Kzzr1)
    | (with_reducible refine zzr0 _ _ ?_; try clear zzr0 Kzzr0)
    | with_reducible refine hJ0 _ _ ?_
    | (with_reducible refine awp_seq_e (a := .block 0 _) [(2, .v (.int .u64 Y)), (8, .v (.int .u64 s)), (9, .v (.int .u64 y1)), (10, .v (.int .u64 y0)), (11, .v (.int .u64 u)), (13, .v (.int .u64 n1)), (14, .v (.int .u64 n0)), (15, .v (.int .u64 Q1))] [] ?_ ?_; rotate_left; intro KJ hJ0)
    | with_reducible refine hJ2 _ _ ?_
    | (with_reducible refine awp_seq_e (a := .block 2 _) [(2, .v (.int .u64 Y)), (8, .v (.int .u64 s)), (14, .v (.int .u64 n0)), (15, .v (.int .u64 Q1)), (17, .v (.int .u64 R1)), (18, .v (.int .u64 Q0))] [] ?_ ?_; rotate_left; intro KJ hJ2)
    | (with_reducible refine awp_lp (c := .seq (.seq (.region 17 _ _) _) _) (σ := Nat × Nat) (fun s => u = s.1 * y1 + s.2 ∧ Q1 ≤ s.1 ∧ s.1 ≤ 4294967297 ∧ s.2 < 4294967296) (fun z => [(2, .v (.int .u64 Y)), (8, .v (.int .u64 s)), (9, .v (.int .u64 y1)), (10, .v (.int .u64 y0)), (11, .v (.int .u64 u)), (13, .v (.int .u64 n1)), (14, .v (.int .u64 n0)), (15, .v (.int .u64 z.1)), (16, .v (.int .u64 z.2))]) (fun _ => []) (fun z => z.1) (u / y1, u % y1) ?_ ?_ (fun z hz => ?_))
    | (with_reducible refine awp_lp (c := .seq (.seq (.region 24 _ _) _) _) (σ := Nat × Nat) (fun s => R1 = s.1 * y1 + s.2 ∧ Q0 ≤ s.1 ∧ s.1 ≤ 4294967297 ∧ s.2 < 4294967296) (fun z => [(2, .v (.int .u64 Y)), (8, .v (.int .u64 s)), (9, .v (.int .u64 y1)), (10, .v (.int .u64 y0)), (14, .v (.int .u64 n0)), (15, .v (.int .u64 Q1)), (17, .v (.int .u64 R1)), (18, .v (.int .u64 z.1)), (16, .v (.int .u64 z.2))]) (fun _ => []) (fun z => z.1) (R1 / y1, R1 % y1) ?_ ?_ (fun z hz => ?_))
    | (with_reducible refine awp_seq_l (a := .region 28 _ _) [6, 7] ?_; intro Kzzr28 zzr28)
    | (with_reducible refine awp_seq_l (a := .block 2 _) [2, 8, 14, 15, 17, 18] ?_; intro Kzzb2 zzb2)
    | (with_reducible refine awp_seq_l (a := .region 27 _ _) [2, 8, 9, 10, 14, 15, 16, 17, 18, 120] ?_; intro Kzzr27 zzr27)
    | (with_reducible refine awp_seq_l (a := .region 26 _ _) [2, 8, 9, 10, 14, 15, 16, 17, 18] ?_; intro Kzzr26 zzr26)
    | (with_reducible refine awp_seq_l (a := .region 25 _ _) [2, 8, 9, 10, 14, 15, 16, 17, 18] ?_; intro Kzzr25 zzr25)
    | (with_reducible refine awp_seq_l (a := .seq (.region 24 _ _) _) [2, 8, 9, 10, 14, 15, 16, 17, 18] ?_; intro Kzzsr24 zzsr24)
    | (with_reducible refine awp_seq_l (a := .region 24 _ _) [2, 8, 9, 10, 14, 15, 16, 17, 18, 113] ?_; intro Kzzr24 zzr24)
    | (with_reducible refine awp_seq_l (a := .region 23 _ _) [2, 8, 9, 10, 14, 15, 16, 17, 18] ?_; intro Kzzr23 zzr23)
    | (with_reducible refine awp_seq_l (a := .region 22 _ _) [2, 8, 9, 10, 14, 15, 17, 18] ?_; intro Kzzr22 zzr22)
    | (with_reducible refine awp_seq_l (a := .region 21 _ _) [2, 8, 9, 10, 14, 15, 17] ?_; intro Kzzr21 zzr21)
    | (with_reducible refine awp_seq_l (a := .block 0 _) [2, 8, 9, 10, 11, 13, 14, 15] ?_; intro Kzzb0 zzb0)
    | (with_reducible refine awp_seq_l (a := .region 20 _ _) [2, 8, 9, 10, 11, 13, 14, 15, 16, 85] ?_; intro Kzzr20 zzr20)
    | (with_reducible refine awp_seq_l (a := .region 19 _ _) [2, 8, 9, 10, 11, 13, 14, 15, 16] ?_; intro Kzzr19 zzr19)
    | (with_reducible refine awp_seq_l (a := .region 18 _ _) [2, 8, 9, 10, 11, 13, 14, 15, 16] ?_; intro Kzzr18 zzr18)
    | (with_reducible refine awp_seq_l (a := .seq (.region 17 _ _) _) [2, 8, 9, 10, 11, 13, 14, 15, 16] ?_; intro Kzzsr17 zzsr17)
    | (with_reducible refine awp_seq_l (a := .region 17 _ _) [2, 8, 9, 10, 11, 13, 14, 15, 16, 78] ?_; intro Kzzr17 zzr17)
    | (with_reducible refine awp_seq_l (a := .region 16 _ _) [2, 8, 9, 10, 11, 13, 14, 15, 16] ?_; intro Kzzr16 zzr16)
    | (with_reducible refine awp_seq_l (a := .region 15 _ _) [2, 8, 9, 10, 11, 13, 14, 15] ?_; intro Kzzr15 zzr15)
    | (with_reducible refine awp_seq_l (a := .region 14 _ _) [2, 8, 9, 10, 11, 13, 14] ?_; intro Kzzr14 zzr14)
    | (with_reducible refine awp_seq_l (a := .region 13 _ _) [2, 8, 9, 10, 11, 12, 13] ?_; intro Kzzr13 zzr13)
    | (with_reducible refine awp_seq_l (a := .region 12 _ _) [2, 8, 9, 10, 11, 12] ?_; intro Kzzr12 zzr12)
    | (with_reducible refine awp_seq_l (a := .region 11 _ _) [1, 2, 8, 9, 10, 11] ?_; intro Kzzr11 zzr11)
    | (with_reducible refine awp_seq_l (a := .region 10 _ _) [0, 1, 2, 8, 9, 10] ?_; intro Kzzr10 zzr10)
    | (with_reducible refine awp_seq_l (a := .region 9 _ _) [0, 1, 2, 8, 9] ?_; intro Kzzr9 zzr9)
    | (with_reducible refine awp_seq_l (a := .region 8 _ _) [0, 1, 2, 8] ?_; intro Kzzr8 zzr8)
    | (with_reducible refine awp_seq_l (a := .region 7 _ _) [0, 1, 2, 8] ?_; intro Kzzr7 zzr7)
    | (with_reducible refine awp_seq_l (a := .seq (.region 5 _ _) _) [0, 1, 2] ?_; intro Kzzsr5 zzsr5)
    | (with_reducible refine awp_seq_l (a := .region 6 _ _) [6, 7] ?_; intro Kzzr6 zzr6)
    | (with_reducible refine awp_seq_l (a := .region 5 _ _) [0, 1, 2, 27] ?_; intro Kzzr5 zzr5)
    | (with_reducible refine awp_seq_l (a := .seq (.region 3 _ _) _) [0, 1, 2] ?_; intro Kzzsr3 zzsr3)
    | (with_reducible refine awp_seq_l (a := .region 3 _ _) [0, 1, 2, 24] ?_; intro Kzzr3 zzr3)
    | (with_reducible refine awp_seq_l (a := .seq (.region 1 _ _) _) [0, 1, 2] ?_; intro Kzzsr1 zzsr1)
    | (with_reducible refine awp_seq_l (a := .region 1 _ _) [0, 1, 2, 20] ?_; intro Kzzr1 zzr1)
    | (with_reducible refine awp_seq_l (a := .region 0 _ _) [0, 1, 2] ?_; intro Kzzr0 zzr0)
    | (with_reducible refine awp_seq_k ?_; intro K hK)
    | (with_reducible refine awp_region_a ?_; intro all hall K hK)
    | (with_reducible refine awp_draw_n ?_ ?_; kernel_rfl; intro all hall K hK)
    | (with_reducible refine Chk_i ?_ ?_)
    | (with_reducible refine keysC_i ?_; kernel_rfl)
    | (with_reducible first | refine awp_block_i ?_ | refine awp_skip_i ?_ | refine awp_ret_i ?_ | refine awp_exit_i ?_ | refine thenP_ret_i ?_ | refine thenP_exit_i ?_ | refine lpP_ret_i ?_ | refine lpP_exit_i ?_ | refine unrP_succ_i ?_ | refine unrP_ret_i ?_ | refine unrP_exit_i ?_ | refine blockP_normal_i ?_ | refine blockP_ret_i ?_)
    | (with_reducible refine blockP_exit_i ?_; simp only [↓reduceIte, Nat.reduceEqDiff])
    | with_reducible refine lpP_normal_i ?_)
  all_goals (try clear zzr0; try clear Kzzr0)
  all_goals (try clear zzr1; try clear Kzzr1)
  all_goals (try clear zzsr1; try clear Kzzsr1)
  all_goals (try clear zzr3; try clear Kzzr3)
  all_goals (try clear zzsr3; try clear Kzzsr3)
  all_goals (try clear zzr5; try clear Kzzr5)
  all_goals (try clear zzr6; try clear Kzzr6)
  all_goals (try clear zzsr5; try clear Kzzsr5)
  all_goals (try clear zzr7; try clear Kzzr7)
  all_goals (try clear zzr8; try clear Kzzr8)
  all_goals (try clear zzr9; try clear Kzzr9)
  all_goals (try clear zzr10; try clear Kzzr10)
  all_goals (try clear zzr11; try clear Kzzr11)
  all_goals (try clear zzr12; try clear Kzzr12)
  all_goals (try clear zzr13; try clear Kzzr13)
  all_goals (try clear zzr14; try clear Kzzr14)
  all_goals (try clear zzr15; try clear Kzzr15)
  all_goals (try clear zzr16; try clear Kzzr16)
  all_goals (try clear zzr17; try clear Kzzr17)
  all_goals (try clear zzsr17; try clear Kzzsr17)
  all_goals (try clear zzr18; try clear Kzzr18)
  all_goals (try clear zzr19; try clear Kzzr19)
  all_goals (try clear zzr20; try clear Kzzr20)
  all_goals (try clear zzb0; try clear Kzzb0)
  all_goals (try clear zzr21; try clear Kzzr21)
  all_goals (try clear zzr22; try clear Kzzr22)
  all_goals (try clear zzr23; try clear Kzzr23)
  all_goals (try clear zzr24; try clear Kzzr24)
  all_goals (try clear zzsr24; try clear Kzzsr24)
  all_goals (try clear zzr25; try clear Kzzr25)
  all_goals (try clear zzr26; try clear Kzzr26)
  all_goals (try clear zzr27; try clear Kzzr27)
  all_goals (try clear zzb2; try clear Kzzb2)
  all_goals (try clear zzr28; try clear Kzzr28)
  all_goals clear e17 e6 e7 e16 e19 e7a e2 e9 e10 e11 e12 e13 e14 y1p t1 t2 lt1 lt2 c1 m1 m2 m3 g1 g2
  all_goals (try simp only [inR])
  all_goals first
    | exact Ent.refl _ _
    | exact ⟨i3, i1, i2, by omega⟩
    | exact ⟨j3, j1, j2, by omega⟩
    | (rcases z with ⟨q, r⟩
       dsimp only at *
       have kp := kn_prod y0l hz.2.2.1
       obtain ⟨d1, d2, d3⟩ := kD1 (q := q) (r := r) (by first | (left; omega) | (right; omega)) hz.1 hz.2.1
       first
         | (have kq := kQ1 (q := q - 1) (r := r + y1) (.inr ⟨by omega, by omega⟩) d3 d1
            (refine ent_ok [] rfl ?_ ?_ <;> simp only [memLe, slotsLe, AvLe, lk, ↓reduceIte, Nat.reduceEqDiff, Option.isSome_some, and_self, and_true, true_and, reduceCtorEq, List.map_nil, List.map_cons, Option.some.injEq, AV.v.injEq, Value.int.injEq, Value.bool.injEq, AV.rd.injEq, AV.ow.injEq, AV.al.injEq, AV.ref.injEq] <;> omega))
         | exact ⟨(q - 1, r + y1), (by (refine ent_ok [] rfl ?_ ?_ <;> simp only [memLe, slotsLe, AvLe, lk, ↓reduceIte, Nat.reduceEqDiff, Option.isSome_some, and_self, and_true, true_and, reduceCtorEq, List.map_nil, List.map_cons, Option.some.injEq, AV.v.injEq, Value.int.injEq, Value.bool.injEq, AV.rd.injEq, AV.ow.injEq, AV.al.injEq, AV.ref.injEq] <;> omega)), ⟨d3, d1, by dsimp only; omega, by dsimp only; omega⟩, by dsimp only; omega⟩)
    | (rcases z with ⟨q, r⟩
       dsimp only at *
       have kp := kn_prod y0l hz.2.2.1
       have kq := kQ1 (q := q) (r := r) (.inl (by omega)) hz.1 hz.2.1
       (refine ent_ok [] rfl ?_ ?_ <;> simp only [memLe, slotsLe, AvLe, lk, ↓reduceIte, Nat.reduceEqDiff, Option.isSome_some, and_self, and_true, true_and, reduceCtorEq, List.map_nil, List.map_cons, Option.some.injEq, AV.v.injEq, Value.int.injEq, Value.bool.injEq, AV.rd.injEq, AV.ow.injEq, AV.al.injEq, AV.ref.injEq] <;> omega))
    | (rcases z with ⟨q, r⟩
       dsimp only at *
       have kp := kn_prod y0l hz.2.2.1
       obtain ⟨d1, d2, d3⟩ := kD0 (q := q) (r := r) (by first | (left; omega) | (right; omega)) hz.1 hz.2.1
       first
         | (have kq := kQ0 (q := q - 1) (r := r + y1) (.inr ⟨by omega, by omega⟩) d3 d1
            (refine ent_ok [] rfl ?_ ?_ <;> simp only [memLe, slotsLe, AvLe, lk, ↓reduceIte, Nat.reduceEqDiff, Option.isSome_some, and_self, and_true, true_and, reduceCtorEq, List.map_nil, List.map_cons, Option.some.injEq, AV.v.injEq, Value.int.injEq, Value.bool.injEq, AV.rd.injEq, AV.ow.injEq, AV.al.injEq, AV.ref.injEq] <;> omega))
         | exact ⟨(q - 1, r + y1), (by (refine ent_ok [] rfl ?_ ?_ <;> simp only [memLe, slotsLe, AvLe, lk, ↓reduceIte, Nat.reduceEqDiff, Option.isSome_some, and_self, and_true, true_and, reduceCtorEq, List.map_nil, List.map_cons, Option.some.injEq, AV.v.injEq, Value.int.injEq, Value.bool.injEq, AV.rd.injEq, AV.ow.injEq, AV.al.injEq, AV.ref.injEq] <;> omega)), ⟨d3, d1, by dsimp only; omega, by dsimp only; omega⟩, by dsimp only; omega⟩)
    | (rcases z with ⟨q, r⟩
       dsimp only at *
       have kp := kn_prod y0l hz.2.2.1
       have kq := kQ0 (q := q) (r := r) (.inl (by omega)) hz.1 hz.2.1
       (refine ent_ok [] rfl ?_ ?_ <;> simp only [memLe, slotsLe, AvLe, lk, ↓reduceIte, Nat.reduceEqDiff, Option.isSome_some, and_self, and_true, true_and, reduceCtorEq, List.map_nil, List.map_cons, Option.some.injEq, AV.v.injEq, Value.int.injEq, Value.bool.injEq, AV.rd.injEq, AV.ow.injEq, AV.al.injEq, AV.ref.injEq] <;> omega))
    | (have h1 := Nat.div_le_self l y
       generalize l / y = qq at *
       omega)
    | ((refine ent_ok [] rfl ?_ ?_ <;> simp only [memLe, slotsLe, AvLe, lk, ↓reduceIte, Nat.reduceEqDiff, Option.isSome_some, and_self, and_true, true_and, reduceCtorEq, List.map_nil, List.map_cons, Option.some.injEq, AV.v.injEq, Value.int.injEq, Value.bool.injEq, AV.rd.injEq, AV.ow.injEq, AV.al.injEq, AV.ref.injEq] <;> omega); done)
    | (have h0 : h = 0 := by omega
       subst h0
       simp only [Nat.zero_mul, Nat.zero_add]
       done)
    | (have h0 : h = 0 := by omega
       subst h0
       simp only [Nat.zero_mul, Nat.zero_add]
       exact ⟨trivial, trivial⟩)
    | skip
theorem sound_65 : Sound Tryz.prog 65 .body (norm s65) := by
  refine sound_norm (sound_body Tryz.func65 (show Tryz.f65.body = some (code Tryz.f65) from rfl) (by kernel_rfl) tysOk G65_ok (drawOk_ok (by kernel_rfl) tysOk G65_ok) (by kernel_rfl) fun ds p r hs hp => ?_)
  unfold s65 at hs
  split at hs
  · cases hs; exact ⟨Nat.le_of_ble_eq_true (by kernel_rfl), wk65 _ _ _ hp⟩
  · cases hs
end Go.Proofs.AMT
set_option maxRecDepth 20000
namespace Go.Proofs.AMT
open Go.AM Go.AM.LN
attribute [local congr] bindO_congr bindS_congr bindG_congr awpOps_congr aOne_congr awp_congr aCond_congr awpD_congr dOne_congr keysB_congr nOne_congr thenP_congr blockP_congr Chk_congr Brk_congr
noncomputable def s46 : CSpec := fun ds => match ds with
  | [.sl .u64 a, .v (.int .u64 n)] => some ((lim a ∧ a.length ≤ 100000000) ∧ 0 < n ∧ n < 18446744073709551616, .many [.fresh .u64 (limbs (val a / n.toNat)), .v (.int .u64 ((val a % n.toNat : Nat)))])
  | _ => none
theorem s46_eq (a : List Int) (n : Int) : norm s46 [.sl .u64 a, .v (.int .u64 n)] = some ((lim a ∧ a.length ≤ 100000000) ∧ 0 < n ∧ n < 18446744073709551616, .many [.fresh .u64 (limbs (val a / n.toNat)), .v (.int .u64 ((val a % n.toNat : Nat)))]) := rfl
theorem s46_nil1  (n : Int) : norm s46 [.v (.slice none 0 0), .v (.int .u64 n)] = some ((lim ([] : List Int) ∧ ([] : List Int).length ≤ 100000000) ∧ 0 < n ∧ n < 18446744073709551616, .many [.fresh .u64 (limbs (val ([] : List Int) / n.toNat)), .v (.int .u64 ((val ([] : List Int) % n.toNat : Nat)))]) := rfl
noncomputable def G46 : Gam := [(64, .body, norm s64), (65, .body, norm s65)]
theorem G46_ok : GamOk Tryz.prog G46 := gamOk_cons sound_64 (gamOk_cons sound_65 gamOk_nil)
theorem k46_64 : lk G46 64 = some (.body, norm s64) := rfl
theorem k46_65 : lk G46 65 = some (.body, norm s65) := rfl
set_option maxHeartbeats 20000000 in
theorem wk46 (a : List Int) (n : Int) (hp : (lim a ∧ a.length ≤ 100000000) ∧ 0 < n ∧ n < 18446744073709551616) : awp ty G46 (code Tryz.f46) (retP ty Tryz.f46.results.toList (.many [.fresh .u64 (limbs (val a / n.toNat)), .v (.int .u64 ((val a % n.toNat : Nat)))])) (entry 0 [.sl .u64 a, .v (.int .u64 n)]) [] := by
  unfold code
  simp only [Tryz.f46, Option.getD_some]
  obtain ⟨m, rfl⟩ := Int.eq_ofNat_of_zero_le (show 0 ≤ n by omega)
  all_goals repeat' (first
    | ((first
       | (with_reducible refine ops_k ?_; intro X hX)
       | (with_reducible refine opsN_k ?_; intro X hX)
       | (with_reducible show awp _ _ _ _ (keepL _ _) _)
       | with_reducible refine awp_cond_k ?_
       | (with_reducible refine Brk_i ?_ ?_ <;> intro hb <;> (try simp only [hb]) <;> have hq := hb <;> try simp only [decide_eq_true_eq, decide_eq_false_iff_not, gt_iff_lt, ge_iff_le, Int.not_lt, Int.not_le, beq_iff_eq, beq_eq_false_iff_ne, Bool.not_eq_true', Bool.not_eq_false', Bool.and_eq_true, Bool.or_eq_true, Bool.and_eq_false_imp, Bool.or_eq_false_iff, ne_eq, Classical.not_not] at hq)
       | with_reducible refine retP_ret_i ?_
       | with_reducible refine retP_normal_i ?_
       | (with_reducible (show bindG _ _ _ _ _); simp only [hall])) <;> try simp only [Go.AM.S1, Go.AM.S2, Go.AM.S3, Go.AM.S4, Go.AM.S5, Go.AM.S6, Go.AM.S7, Go.AM.S8, Go.AM.S9, Nat.reduceAdd, Nat.reduceMul, Nat.reduceSub, ↓reduceIte, Nat.reduceEqDiff, Nat.reduceLT, Nat.reduceLeDiff, reduceCtorEq, Int.reduceBEq, Int.reduceBNe, Nat.reduceBEq, Int.reduceEq, Int.reduceToNat, Int.reduceLE, Int.reduceLT, Nat.reduceDiv, Int.reduceAdd, Int.reduceSub, Int.reduceMul, Int.reduceNeg, Int.reduceGT, Int.reduceGE, Nat.reduceMod, k46_64, s64_eq, s64_nil1, k46_65, s65_eq, ty_3, ty_22, ty_40, List.length_replicate])
    | (with_reducible refine hX _ _ ?_; clear hX X)
    | (with_reducible refine ops_nil_i ?_; try clear hall all)
    | (with_reducible refine opsN_nil_i ?_; try clear hall all)
    | (with_reducible refine hK _ _ ?_; clear hK K)
    | with_reducible refine thenP_normal_i ?_
    | (with_reducible refine zzr7 _ _ ?_; try clear zzr7 Kzzr7)
    | (with_reducible refine zzsr3 _ _ ?_; try clear zzsr3 Kzzsr3)
    | (with_reducible refine zzb1 _ _ ?_; try clear zzb1 Kzzb1)
    | (with_reducible refine zzsr4 _ _ ?_; try clear zzsr4 Kzzsr4)
    | (with_reducible refine zzr4 _ _ ?_; try clear zzr4 Kzzr4)
    | (with_reducible refine zzr3 _ _ ?_; try clear zzr3 Kzzr3)
    | (with_reducible refine zzr2 _ _ ?_; try clear zzr2 Kzzr2)
    | (with_reducible refine zzr1 _ _ ?_; try clear zzr1 Kzzr1)
    | (with_reducible refine zzr0 _ _ ?_; try clear zzr0 Kzzr0)
    | (with_reducible refine awp_lp (σ := Nat × Nat × List Int) (fun s => s.1 ≤ a.length ∧ s.2.1 < m ∧ lim s.2.2 ∧ s.2.2.length = a.length ∧ val (s.2.2.drop s.1) = val (a.drop s.1) / m ∧ s.2.1 = val (a.drop s.1) % m) (fun s => [(0, .rd .u64 a), (1, .v (.int .u64 m)), (6, .ow 176), (7, .v (.int .u64 s.2.1)), (8, .v (.int .i64 ((s.1 : Int) - 1)))]) (fun s => [(176, .ints .u64 s.2.2, false)]) (fun s => s.1) (a.length, 0, List.replicate a.length 0) ?_ ?_ (fun s hs => ?_))
    | (with_reducible refine awp_seq_l (a := .region 7 _ _) [4, 5] ?_; intro Kzzr7 zzr7)
    | (with_reducible refine awp_seq_l (a := .seq (.region 3 _ _) _) [6, 7] ?_; intro Kzzsr3 zzsr3)
    | (with_reducible refine awp_seq_l (a := .block 1 _) [0, 1, 6, 7, 8] ?_; intro Kzzb1 zzb1)
    | (with_reducible refine awp_seq_l (a := .seq (.region 4 _ _) _) [0, 1, 6, 7, 8] ?_; intro Kzzsr4 zzsr4)
    | (with_reducible refine awp_seq_l (a := .region 4 _ _) [0, 1, 6, 7, 8, 16] ?_; intro Kzzr4 zzr4)
    | (with_reducible refine awp_seq_l (a := .region 3 _ _) [0, 1, 6, 7, 8] ?_; intro Kzzr3 zzr3)
    | (with_reducible refine awp_seq_l (a := .region 2 _ _) [0, 1, 6, 7] ?_; intro Kzzr2 zzr2)
    | (with_reducible refine awp_seq_l (a := .region 1 _ _) [0, 1, 6] ?_; intro Kzzr1 zzr1)
    | (with_reducible refine awp_seq_l (a := .region 0 _ _) [0, 1] ?_; intro Kzzr0 zzr0)
    | (with_reducible refine awp_seq_k ?_; intro K hK)
    | (with_reducible refine awp_region_a ?_; intro all hall K hK)
    | (with_reducible refine awp_draw_n ?_ ?_; kernel_rfl; intro all hall K hK)
    | (with_reducible refine Chk_i ?_ ?_)
    | (with_reducible refine keysC_i ?_; kernel_rfl)
    | (with_reducible first | refine awp_block_i ?_ | refine awp_skip_i ?_ | refine awp_ret_i ?_ | refine awp_exit_i ?_ | refine thenP_ret_i ?_ | refine thenP_exit_i ?_ | refine lpP_ret_i ?_ | refine lpP_exit_i ?_ | refine unrP_succ_i ?_ | refine unrP_ret_i ?_ | refine unrP_exit_i ?_ | refine blockP_normal_i ?_ | refine blockP_ret_i ?_)
    | (with_reducible refine blockP_exit_i ?_; simp only [↓reduceIte, Nat.reduceEqDiff])
    | with_reducible refine lpP_normal_i ?_)
  all_goals (try clear zzr0; try clear Kzzr0)
  all_goals (try clear zzr1; try clear Kzzr1)
  all_goals (try clear zzr2; try clear Kzzr2)
  all_goals (try clear zzr3; try clear Kzzr3)
  all_goals (try clear zzr4; try clear Kzzr4)
  all_goals (try clear zzsr4; try clear Kzzsr4)
  all_goals (try clear zzb1; try clear Kzzb1)
  all_goals (try clear zzsr3; try clear Kzzsr3)
  all_goals (try clear zzr7; try clear Kzzr7)
  all_goals (try (rcases s with ⟨i, c, o⟩))
  all_goals (try dsimp only at *)
  all_goals (try simp only [inR])
  all_goals (try omega)
  · refine ⟨Nat.le_refl _, by omega, lim_rep _, by simp, ?_, ?_⟩
    · rw [List.drop_of_length_le (by simp), List.drop_length]; simp [val]
    · rw [List.drop_length]; simp [val]
  · exact Ent.refl _ _
  · have h1 := lim_get hp.1.1 (i := ((i : Int) - 1).toNat)
    have h2 := hs.2.1
    exact ⟨⟨by omega, by omega⟩, h1, by omega, by omega⟩
  · have e : ((i : Int) - 1).toNat = i - 1 := by omega
    rw [e]
    have h1 := lim_get hp.1.1 (i := i - 1)
    have h2 := word_step (i := i - 1) hp.1.1 (by omega) hs.2.1 (by omega) hs.2.2.2.1 (by rw [show i - 1 + 1 = i by omega]; exact hs.2.2.2.2)
    have h3 := word_lt (n := m) (by omega) hs.2.1 (show (a.getD (i - 1) 0).toNat < 18446744073709551616 by omega)
    have h4 := Nat.mod_lt (c * 18446744073709551616 + (a.getD (i - 1) 0).toNat) (show 0 < m by omega)
    refine ⟨(i - 1, (c * 18446744073709551616 + (a.getD (i - 1) 0).toNat) % m, o.set (i - 1) (((c * 18446744073709551616 + (a.getD (i - 1) 0).toNat) / m : Nat) : Int)), by (refine ent_ok [(176, 176)] rfl ?_ ?_ <;> simp only [memLe, slotsLe, AvLe, lk, ↓reduceIte, Nat.reduceEqDiff, Option.isSome_some, and_self, and_true, true_and, reduceCtorEq, List.map_nil, List.map_cons, Option.some.injEq, AV.v.injEq, Value.int.injEq, Value.bool.injEq, AV.rd.injEq, AV.ow.injEq, AV.al.injEq, AV.ref.injEq] <;> omega), ⟨by dsimp only; omega, h4, lim_set hs.2.2.1 (nat_lim h3) _, by simp [hs.2.2.2.1], h2.1, h2.2⟩, by dsimp only; omega⟩
  · have h6 := sz_le o
    omega
  · have h0 : i = 0 := by omega
    subst h0
    have h1 := hs.2.2.2.2
    rw [List.drop_zero, List.drop_zero] at h1
    rw [take_sz hs.2.2.1, h1.1, ← h1.2]
    all_goals (first | rfl | exact ⟨rfl, rfl⟩ | exact ⟨⟨rfl, rfl⟩, rfl⟩)
theorem sound_46 : Sound Tryz.prog 46 .body (norm s46) := by
  refine sound_norm (sound_body Tryz.func46 (show Tryz.f46.body = some (code Tryz.f46) from rfl) (by kernel_rfl) tysOk G46_ok (drawOk_ok (by kernel_rfl) tysOk G46_ok) (by kernel_rfl) fun ds p r hs hp => ?_)
  unfold s46 at hs
  split at hs
  · cases hs; exact ⟨Nat.le_of_ble_eq_true (by kernel_rfl), wk46 _ _ hp⟩
  · cases hs
end Go.Proofs.AMT
namespace Go.Proofs
open Go.Shelf
def Tryz.lays156_ren : Go.Shelf.Ren :=
{
  f := fun x =>
    match x with
    | 156 => 50
    | 165 => 69
    | 166 => 70
    | 169 => 72
    | 240 => 85
    | 241 => 86
    | 276 => 95
    | 277 => 96
    | n => n,
  t := fun x =>
    match x with
    | 31 => 71
    | 9 => 9
    | 3 => 3
    | 4 => 4
    | 0 => 0
    | 20 => 20
    | 72 => 98
    | 76 => 102
    | 70 => 96
    | 37 => 85
    | 75 => 101
    | 127 => 118
    | 164 => 131
    | 5 => 5
    | 80 => 105
    | n => n,
  g := fun x => x }
theorem Tryz.lays156 : Lays.n156 Tryz.prog Tryz.lays156_ren :=
  { mixed := by kernel_rfl,
    f156 := Eq.trans Tryz.func50 (congrArg some (by kernel_rfl)),
    f165 := Eq.trans Tryz.func69 (congrArg some (by kernel_rfl)),
    f166 := Eq.trans Tryz.func70 (congrArg some (by kernel_rfl)),
    f169 := Eq.trans Tryz.func72 (congrArg some (by kernel_rfl)),
    f240 := Eq.trans Tryz.func85 (congrArg some (by kernel_rfl)),
    f241 := Eq.trans Tryz.func86 (congrArg some (by kernel_rfl)),
    f276 := Eq.trans Tryz.func95 (congrArg some (by kernel_rfl)),
    f277 := Eq.trans Tryz.func96 (congrArg some (by kernel_rfl)),
    t0 := Tryz.underlying0,
    a0 := Tryz.isAgg0,
    z0 := Tryz.sizeOf0,
    v0 := Tryz.zeroValue0,
    t3 := Tryz.underlying3,
    a3 := Tryz.isAgg3,
    z3 := Tryz.sizeOf3,
    v3 := Tryz.zeroValue3,
    t4 := Tryz.underlying4,
    a4 := Tryz.isAgg4,
    z4 := Tryz.sizeOf4,
    v4 := Tryz.zeroValue4,
    t9 := Tryz.underlying9,
    a9 := Tryz.isAgg9,
    z9 := Tryz.sizeOf9,
    v9 := Tryz.zeroValue9,
    t20 := Tryz.underlying20,
    a20 := Tryz.isAgg20,
    z20 := Tryz.sizeOf20,
    v20 := Tryz.zeroValue20,
    t31 := Tryz.underlying71,
    a31 := Tryz.isAgg71,
    z31 := Tryz.sizeOf71,
    v31 := Tryz.zeroValue71,
    t37 := Tryz.underlying85,
    a37 := Tryz.isAgg85,
    z37 := Tryz.sizeOf85,
    v37 := Tryz.zeroValue85,
    t70 := Tryz.underlying96,
    a70 := Tryz.isAgg96,
    z70 := Tryz.sizeOf96,
    v70 := Tryz.zeroValue96,
    t72 := Tryz.underlying98,
    a72 := Tryz.isAgg98,
    z72 := Tryz.sizeOf98,
    v72 := Tryz.zeroValue98,
    t75 := Tryz.underlying101,
    a75 := Tryz.isAgg101,
    z75 := Tryz.sizeOf101,
    v75 := Tryz.zeroValue101,
    t76 := Tryz.underlying102,
    a76 := Tryz.isAgg102,
    z76 := Tryz.sizeOf102,
    v76 := Tryz.zeroValue102,
    t127 := Tryz.underlying118,
    a127 := Tryz.isAgg118,
    z127 := Tryz.sizeOf118,
    v127 := Tryz.zeroValue118,
    t164 := Tryz.underlying131,
    a164 := Tryz.isAgg131,
    z164 := Tryz.sizeOf131,
    v164 := Tryz.zeroValue131 }
theorem Tryz.Builder_Extra_156 : Builder.Extra Tryz.prog Tryz.lays156_ren where
  sizeBuilder := by kernel_rfl
  liesBuilder := by kernel_rfl
  t5 := Tryz.underlying5
  a5 := Tryz.isAgg5
  z5 := Tryz.sizeOf5
  v5 := Tryz.zeroValue5
  infoByte := by kernel_rfl
  cellsByte := by kernel_rfl
  sizeByte := by kernel_rfl
  neB5 := by decide
open Go.RowKit in
/-- No element: the empty string; the world is as it was. (Whatever the slice's address and capacity: a nil slice too.) (LAID: no walk: one application.) -/
theorem Tryz.strings_Join_none (a : Option Addr) (c : Nat) (sep : ByteArray) (w : World) :
    Calls Tryz.prog 50 #[.slice a 0 c, .string sep] w fun e w' => e = .returned (.string ⟨#[]⟩) ∧ w' = w := Any.strings_Join_none Tryz.lays156 Tryz.Builder_Extra_156 a c sep w
open Go.RowKit in
/-- strings.Join: "Join concatenates the elements of its first argument to create a single string. The separator string sep is placed between elements in the resulting string.": HOWEVER MANY ELEMENTS. Below the heap's end the world is as it was. (LAID: no walk: one application.) -/
theorem Tryz.strings_Join (bk o c : Nat) (xs : List ByteArray) (sep : ByteArray) (w : World) (hcells : ∀ (j : Nat) x, xs[j]? = some x → w.cell? ⟨bk, o + j, none⟩ = some (.string x)) (hbk : bk < w.heap.size) (hN : xs.length ≤ 140737488355328) (hcap : xs.length ≤ c) (hlen : (Lib.join (xs.map (·.data.toList)) sep.data.toList).length ≤ 140737488355328) :
    Calls Tryz.prog 50 #[.slice (some ⟨bk, o, none⟩) xs.length c, .string sep] w fun e w' => e = .returned (.string ⟨(Lib.join (xs.map (·.data.toList)) sep.data.toList).toArray⟩) ∧ Below w.heap.size w w' := Any.strings_Join Tryz.lays156 Tryz.Builder_Extra_156 bk o c xs sep w hcells hbk hN hcap hlen
def Tryz.lays161_ren : Go.Shelf.Ren :=
{
  f := fun x =>
    match x with
    | 161 => 73
    | 231 => 87
    | 227 => 88
    | 233 => 89
    | 235 => 90
    | 228 => 97
    | 197 => 98
    | 151 => 99
    | 260 => 102
    | 152 => 103
    | 137 => 104
    | 119 => 105
    | 224 => 106
    | 225 => 107
    | 217 => 108
    | 266 => 109
    | n => n,
  t := fun x =>
    match x with
    | 9 => 9
    | 4 => 4
    | 3 => 3
    | 5 => 5
    | 117 => 122
    | 116 => 121
    | 0 => 0
    | 124 => 125
    | 105 => 135
    | 21 => 21
    | 119 => 142
    | 46 => 37
    | 139 => 145
    | 138 => 144
    | n => n,
  g := fun x =>
    match x with
    | 3 => 6
    | 4 => 7
    | n => n }
theorem Tryz.lays161 : Lays.n161 Tryz.prog Tryz.lays161_ren :=
  { mixed := by kernel_rfl,
    f119 := Eq.trans Tryz.func105 (congrArg some (by kernel_rfl)),
    f137 := Eq.trans Tryz.func104 (congrArg some (by kernel_rfl)),
    f151 := Eq.trans Tryz.func99 (congrArg some (by kernel_rfl)),
    f152 := Eq.trans Tryz.func103 (congrArg some (by kernel_rfl)),
    f161 := Eq.trans Tryz.func73 (congrArg some (by kernel_rfl)),
    f197 := Eq.trans Tryz.func98 (congrArg some (by kernel_rfl)),
    f217 := Eq.trans Tryz.func108 (congrArg some (by kernel_rfl)),
    f224 := Eq.trans Tryz.func106 (congrArg some (by kernel_rfl)),
    f225 := Eq.trans Tryz.func107 (congrArg some (by kernel_rfl)),
    f227 := Eq.trans Tryz.func88 (congrArg some (by kernel_rfl)),
    f228 := Eq.trans Tryz.func97 (congrArg some (by kernel_rfl)),
    f231 := Eq.trans Tryz.func87 (congrArg some (by kernel_rfl)),
    f233 := Eq.trans Tryz.func89 (congrArg some (by kernel_rfl)),
    f235 := Eq.trans Tryz.func90 (congrArg some (by kernel_rfl)),
    f260 := Eq.trans Tryz.func102 (congrArg some (by kernel_rfl)),
    f266 := Eq.trans Tryz.func109 (congrArg some (by kernel_rfl)),
    t0 := Tryz.underlying0,
    a0 := Tryz.isAgg0,
    z0 := Tryz.sizeOf0,
    v0 := Tryz.zeroValue0,
    t3 := Tryz.underlying3,
    a3 := Tryz.isAgg3,
    z3 := Tryz.sizeOf3,
    v3 := Tryz.zeroValue3,
    t4 := Tryz.underlying4,
    a4 := Tryz.isAgg4,
    z4 := Tryz.sizeOf4,
    v4 := Tryz.zeroValue4,
    t5 := Tryz.underlying5,
    a5 := Tryz.isAgg5,
    z5 := Tryz.sizeOf5,
    v5 := Tryz.zeroValue5,
    t9 := Tryz.underlying9,
    a9 := Tryz.isAgg9,
    z9 := Tryz.sizeOf9,
    v9 := Tryz.zeroValue9,
    t21 := Tryz.underlying21,
    a21 := Tryz.isAgg21,
    z21 := Tryz.sizeOf21,
    v21 := Tryz.zeroValue21,
    t46 := Tryz.underlying37,
    a46 := Tryz.isAgg37,
    z46 := Tryz.sizeOf37,
    v46 := Tryz.zeroValue37,
    t105 := Tryz.underlying135,
    a105 := Tryz.isAgg135,
    z105 := Tryz.sizeOf135,
    v105 := Tryz.zeroValue135,
    t116 := Tryz.underlying121,
    a116 := Tryz.isAgg121,
    z116 := Tryz.sizeOf121,
    t117 := Tryz.underlying122,
    a117 := Tryz.isAgg122,
    z117 := Tryz.sizeOf122,
    v117 := Tryz.zeroValue122,
    t119 := Tryz.underlying142,
    a119 := Tryz.isAgg142,
    z119 := Tryz.sizeOf142,
    t124 := Tryz.underlying125,
    a124 := Tryz.isAgg125,
    z124 := Tryz.sizeOf125,
    v124 := Tryz.zeroValue125,
    t138 := Tryz.underlying144,
    a138 := Tryz.isAgg144,
    z138 := Tryz.sizeOf144,
    v138 := Tryz.zeroValue144,
    t139 := Tryz.underlying145,
    a139 := Tryz.isAgg145,
    z139 := Tryz.sizeOf145,
    v139 := Tryz.zeroValue145,
    g3 := by kernel_rfl,
    g4 := by kernel_rfl }
open Go.RowKit in
/-- strings.TrimLeft: "TrimLeft returns a slice of the string s with all leading Unicode code points contained in cutset removed.": AT A cutset OF ONE ASCII BYTE. The world is as it was. (LAID: no walk: one application.) -/
theorem Tryz.strings_TrimLeft_one (s : ByteArray) (c : UInt8) (hc : c.toNat < 128) (w : World) :
    Calls Tryz.prog 73 #[.string s, .string ⟨#[c]⟩] w fun e w' => e = .returned (.string ⟨(Lib.trimLeftB s.data.toList c).toArray⟩) ∧ w' = w := Any.strings_TrimLeft_one Tryz.lays161 s c hc w
def Tryz.lays283_ren : Go.Shelf.Ren :=
{
  f := fun x =>
    match x with
    | 283 => 74
    | n => n,
  t := fun x =>
    match x with
    | 3 => 3
    | 9 => 9
    | 4 => 4
    | n => n,
  g := fun x => x }
theorem Tryz.lays283 : Lays.n283 Tryz.prog Tryz.lays283_ren :=
  { mixed := by kernel_rfl,
    f283 := Eq.trans Tryz.func74 (congrArg some (by kernel_rfl)),
    t3 := Tryz.underlying3,
    a3 := Tryz.isAgg3,
    z3 := Tryz.sizeOf3,
    v3 := Tryz.zeroValue3,
    t4 := Tryz.underlying4,
    a4 := Tryz.isAgg4,
    z4 := Tryz.sizeOf4,
    v4 := Tryz.zeroValue4,
    t9 := Tryz.underlying9,
    a9 := Tryz.isAgg9,
    z9 := Tryz.sizeOf9,
    v9 := Tryz.zeroValue9 }
open Go.Lib in
/-- internal/strconv.small: "small returns the string for an i with 0 <= i < nSmalls.": i's decimal numeral. The world is as it was. (LAID: no walk: one application.) -/
theorem Tryz.internal_strconv_small (i : Nat) (h : i < 100) (w : World) :
    Calls Tryz.prog 74 #[.int .i64 i] w fun e w' => e = .returned (.string ⟨(Lib.decDigits i).toArray⟩) ∧ w' = w := Any.internal_strconv_small Tryz.lays283 i h w
def Tryz.laysM284_ren : Go.Shelf.Ren :=
{
  f := fun x =>
    match x with
    | 284 => 75
    | 129 => 26
    | 317 => 91
    | 318 => 92
    | n => n,
  t := fun x =>
    match x with
    | 53 => 22
    | 3 => 3
    | 212 => 128
    | 0 => 0
    | 4 => 4
    | 46 => 37
    | 5 => 5
    | 9 => 9
    | n => n,
  g := fun x =>
    match x with
    | 17 => 2
    | n => n }
theorem Tryz.laysM284 : LaysM.n284 Tryz.prog Tryz.laysM284_ren :=
  { mixed := by kernel_rfl,
    f129 := Eq.trans Tryz.func26 (congrArg some (by kernel_rfl)),
    f284 := Eq.trans Tryz.func75 (congrArg some (by kernel_rfl)),
    f317 := Eq.trans Tryz.func91 (congrArg some (by kernel_rfl)),
    f318 := Eq.trans Tryz.func92 (congrArg some (by kernel_rfl)),
    t0 := Tryz.underlying0,
    a0 := Tryz.isAgg0,
    z0 := Tryz.sizeOf0,
    v0 := Tryz.zeroValue0,
    t3 := Tryz.underlying3,
    a3 := Tryz.isAgg3,
    z3 := Tryz.sizeOf3,
    v3 := Tryz.zeroValue3,
    t4 := Tryz.underlying4,
    a4 := Tryz.isAgg4,
    z4 := Tryz.sizeOf4,
    v4 := Tryz.zeroValue4,
    t5 := Tryz.underlying5,
    a5 := Tryz.isAgg5,
    z5 := Tryz.sizeOf5,
    v5 := Tryz.zeroValue5,
    t9 := Tryz.underlying9,
    a9 := Tryz.isAgg9,
    z9 := Tryz.sizeOf9,
    v9 := Tryz.zeroValue9,
    t46 := Tryz.underlying37,
    a46 := Tryz.isAgg37,
    z46 := Tryz.sizeOf37,
    v46 := Tryz.zeroValue37,
    t53 := Tryz.underlying22,
    a53 := Tryz.isAgg22,
    z53 := Tryz.sizeOf22,
    v53 := Tryz.zeroValue22,
    t212 := Tryz.underlying128,
    a212 := Tryz.isAgg128,
    z212 := Tryz.sizeOf128,
    v212 := Tryz.zeroValue128,
    g17 := by kernel_rfl,
    i0 := by kernel_rfl,
    i3 := by kernel_rfl,
    i4 := by kernel_rfl,
    i5 := by kernel_rfl,
    i9 := by kernel_rfl,
    i46 := by kernel_rfl,
    i53 := by kernel_rfl,
    i212 := by kernel_rfl,
    m17 := by kernel_rfl }
open Go.Lib in
/-- internal/strconv.numDigits, at a d that is not 0: THE NUMBER OF d's DECIMAL DIGITS. The world is as it was. (LAID: no walk: one application.) -/
theorem Tryz.internal_strconv_numDigits (u : Nat) (h1 : 1 ≤ u) (h2 : u < 18446744073709551616) (w : World) (htab : Lib.TabIs Tryz.prog w "internal/strconv.uint64pow10" .u64 Lib.pow10Tab) :
    Calls Tryz.prog 75 #[.int .u64 u] w fun e w' => e = .returned (.int .i64 (Lib.nDigits u)) ∧ w' = w := Any.internal_strconv_numDigits Tryz.laysM284 u h1 h2 w htab
def Tryz.lays285_ren : Go.Shelf.Ren :=
{
  f := fun x =>
    match x with
    | 285 => 76
    | n => n,
  t := fun x =>
    match x with
    | 37 => 85
    | 53 => 22
    | 3 => 3
    | 4 => 4
    | 51 => 115
    | 9 => 9
    | 5 => 5
    | 0 => 0
    | n => n,
  g := fun x => x }
theorem Tryz.lays285 : Lays.n285 Tryz.prog Tryz.lays285_ren :=
  { mixed := by kernel_rfl,
    f285 := Eq.trans Tryz.func76 (congrArg some (by kernel_rfl)),
    t0 := Tryz.underlying0,
    a0 := Tryz.isAgg0,
    z0 := Tryz.sizeOf0,
    v0 := Tryz.zeroValue0,
    t3 := Tryz.underlying3,
    a3 := Tryz.isAgg3,
    z3 := Tryz.sizeOf3,
    v3 := Tryz.zeroValue3,
    t4 := Tryz.underlying4,
    a4 := Tryz.isAgg4,
    z4 := Tryz.sizeOf4,
    v4 := Tryz.zeroValue4,
    t5 := Tryz.underlying5,
    a5 := Tryz.isAgg5,
    z5 := Tryz.sizeOf5,
    v5 := Tryz.zeroValue5,
    t9 := Tryz.underlying9,
    a9 := Tryz.isAgg9,
    z9 := Tryz.sizeOf9,
    v9 := Tryz.zeroValue9,
    t37 := Tryz.underlying85,
    a37 := Tryz.isAgg85,
    z37 := Tryz.sizeOf85,
    v37 := Tryz.zeroValue85,
    t51 := Tryz.underlying115,
    a51 := Tryz.isAgg115,
    z51 := Tryz.sizeOf115,
    v51 := Tryz.zeroValue115,
    t53 := Tryz.underlying22,
    a53 := Tryz.isAgg22,
    z53 := Tryz.sizeOf22,
    v53 := Tryz.zeroValue22 }
open Go.RowKit Go.Sort Go.Lib in
/-- internal/strconv.formatBase10: "formatBase10 formats the decimal representation of u into a. The caller is responsible for ensuring that a is big enough to hold u. If a is too big, leading zeros will be filled in as needed.": THE ROW HOLDS u's DIGITS ('FmtInv .. 0 ..': every place t holds 'dg u (len - 1 - t)'); all else is as it was but for the count of draws. (LAID: no walk: one application.) -/
theorem Tryz.internal_strconv_formatBase10 (blk off cap : Nat) (u : Nat) (d : Array UInt8) (w : World) (hH : Holds (fun (b : UInt8) => Value.int .u8 (b.toNat : Int)) w blk off d) (hu : u < 10 ^ d.size) (hu64 : u < 18446744073709551616) (hsz : d.size < 4611686018427387904) :
    Calls Tryz.prog 76 #[.slice (some ⟨blk, off, none⟩) d.size cap, .int .u64 u] w fun e w' =>
      e = .returned (.tuple #[]) ∧ ∃ (n v' : Nat) (dk : Array UInt8), w' = (putRow (fun (b : UInt8) => Value.int .u8 (b.toNat : Int)) w blk off dk).drewN n ∧ FmtInv d.size u 0 v' dk := Any.internal_strconv_formatBase10 Tryz.lays285 blk off cap u d w hH hu hu64 hsz
def Tryz.laysM171_ren : Go.Shelf.Ren :=
{
  f := fun x =>
    match x with
    | 171 => 11
    | 243 => 27
    | 246 => 53
    | 283 => 74
    | 284 => 75
    | 285 => 76
    | 286 => 77
    | 129 => 26
    | 317 => 91
    | 318 => 92
    | 319 => 93
    | 320 => 94
    | 337 => 100
    | 338 => 101
    | n => n,
  t := fun x =>
    match x with
    | 3 => 3
    | 9 => 9
    | 2 => 2
    | 4 => 4
    | 171 => 107
    | 0 => 0
    | 53 => 22
    | 37 => 85
    | 5 => 5
    | 173 => 109
    | 212 => 128
    | 51 => 115
    | 20 => 20
    | 213 => 129
    | 46 => 37
    | 232 => 140
    | 233 => 141
    | n => n,
  g := fun x =>
    match x with
    | 17 => 2
    | 18 => 4
    | 19 => 5
    | n => n }
theorem Tryz.laysM171 : LaysM.n171 Tryz.prog Tryz.laysM171_ren :=
  { mixed := by kernel_rfl,
    f129 := Eq.trans Tryz.func26 (congrArg some (by kernel_rfl)),
    f171 := Eq.trans Tryz.func11 (congrArg some (by kernel_rfl)),
    f243 := Eq.trans Tryz.func27 (congrArg some (by kernel_rfl)),
    f246 := Eq.trans Tryz.func53 (congrArg some (by kernel_rfl)),
    f283 := Eq.trans Tryz.func74 (congrArg some (by kernel_rfl)),
    f284 := Eq.trans Tryz.func75 (congrArg some (by kernel_rfl)),
    f285 := Eq.trans Tryz.func76 (congrArg some (by kernel_rfl)),
    f286 := Eq.trans Tryz.func77 (congrArg some (by kernel_rfl)),
    f317 := Eq.trans Tryz.func91 (congrArg some (by kernel_rfl)),
    f318 := Eq.trans Tryz.func92 (congrArg some (by kernel_rfl)),
    f319 := Eq.trans Tryz.func93 (congrArg some (by kernel_rfl)),
    f320 := Eq.trans Tryz.func94 (congrArg some (by kernel_rfl)),
    f337 := Eq.trans Tryz.func100 (congrArg some (by kernel_rfl)),
    f338 := Eq.trans Tryz.func101 (congrArg some (by kernel_rfl)),
    t0 := Tryz.underlying0,
    a0 := Tryz.isAgg0,
    z0 := Tryz.sizeOf0,
    v0 := Tryz.zeroValue0,
    t2 := Tryz.underlying2,
    a2 := Tryz.isAgg2,
    z2 := Tryz.sizeOf2,
    v2 := Tryz.zeroValue2,
    t3 := Tryz.underlying3,
    a3 := Tryz.isAgg3,
    z3 := Tryz.sizeOf3,
    v3 := Tryz.zeroValue3,
    t4 := Tryz.underlying4,
    a4 := Tryz.isAgg4,
    z4 := Tryz.sizeOf4,
    v4 := Tryz.zeroValue4,
    t5 := Tryz.underlying5,
    a5 := Tryz.isAgg5,
    z5 := Tryz.sizeOf5,
    v5 := Tryz.zeroValue5,
    t9 := Tryz.underlying9,
    a9 := Tryz.isAgg9,
    z9 := Tryz.sizeOf9,
    v9 := Tryz.zeroValue9,
    t20 := Tryz.underlying20,
    a20 := Tryz.isAgg20,
    z20 := Tryz.sizeOf20,
    v20 := Tryz.zeroValue20,
    t37 := Tryz.underlying85,
    a37 := Tryz.isAgg85,
    z37 := Tryz.sizeOf85,
    v37 := Tryz.zeroValue85,
    t46 := Tryz.underlying37,
    a46 := Tryz.isAgg37,
    z46 := Tryz.sizeOf37,
    v46 := Tryz.zeroValue37,
    t51 := Tryz.underlying115,
    a51 := Tryz.isAgg115,
    z51 := Tryz.sizeOf115,
    v51 := Tryz.zeroValue115,
    t53 := Tryz.underlying22,
    a53 := Tryz.isAgg22,
    z53 := Tryz.sizeOf22,
    v53 := Tryz.zeroValue22,
    t171 := Tryz.underlying107,
    a171 := Tryz.isAgg107,
    z171 := Tryz.sizeOf107,
    v171 := Tryz.zeroValue107,
    t173 := Tryz.underlying109,
    a173 := Tryz.isAgg109,
    z173 := Tryz.sizeOf109,
    v173 := Tryz.zeroValue109,
    t212 := Tryz.underlying128,
    a212 := Tryz.isAgg128,
    z212 := Tryz.sizeOf128,
    v212 := Tryz.zeroValue128,
    t213 := Tryz.underlying129,
    a213 := Tryz.isAgg129,
    z213 := Tryz.sizeOf129,
    t232 := Tryz.underlying140,
    a232 := Tryz.isAgg140,
    z232 := Tryz.sizeOf140,
    v232 := Tryz.zeroValue140,
    t233 := Tryz.underlying141,
    a233 := Tryz.isAgg141,
    z233 := Tryz.sizeOf141,
    v233 := Tryz.zeroValue141,
    g17 := by kernel_rfl,
    g18 := by kernel_rfl,
    g19 := by kernel_rfl,
    i0 := by kernel_rfl,
    i2 := by kernel_rfl,
    i3 := by kernel_rfl,
    i4 := by kernel_rfl,
    i5 := by kernel_rfl,
    i9 := by kernel_rfl,
    i20 := by kernel_rfl,
    i37 := by kernel_rfl,
    i46 := by kernel_rfl,
    i51 := by kernel_rfl,
    i53 := by kernel_rfl,
    i171 := by kernel_rfl,
    i173 := by kernel_rfl,
    i212 := by kernel_rfl,
    i232 := by kernel_rfl,
    i233 := by kernel_rfl,
    m17 := by kernel_rfl,
    m18 := by kernel_rfl,
    m19 := by kernel_rfl }
open Go.RowKit Go.Sort Go.Lib in
/-- strconv.Itoa: "Itoa is equivalent to FormatInt(int64(i), 10).": i's DECIMAL NUMERAL ('Lib.itoa': a '-' where i is negative, then the digits), FOR EVERY int. The world behind the call: the world before it, new blocks behind the heap (the library's 'var a [24]byte'), draws. (LAID: no walk: one application.) -/
theorem Tryz.strconv_Itoa (n : Int) (h0 : -9223372036854775808 ≤ n) (h1 : n ≤ 9223372036854775807) (w : World) (htab : Lib.TabIs Tryz.prog w "internal/strconv.uint64pow10" .u64 Lib.pow10Tab) :
    Calls Tryz.prog 11 #[.int .i64 n] w fun e w' => e = .returned (.string ⟨(Lib.itoa n).toArray⟩) ∧ ∃ k os, w' = grow (w.drewN k) os := Any.strconv_Itoa Tryz.laysM171 n h0 h1 w htab
def Tryz.lays105_ren : Go.Shelf.Ren :=
{
  f := fun x =>
    match x with
    | 105 => 48
    | 212 => 67
    | 99 => 68
    | 165 => 69
    | 166 => 70
    | 170 => 71
    | 169 => 72
    | 263 => 83
    | 264 => 78
    | 206 => 84
    | 240 => 85
    | 241 => 86
    | 276 => 95
    | 277 => 96
    | n => n,
  t := fun x =>
    match x with
    | 9 => 9
    | 3 => 3
    | 4 => 4
    | 20 => 20
    | 0 => 0
    | 46 => 37
    | 109 => 93
    | 5 => 5
    | 72 => 98
    | 76 => 102
    | 51 => 115
    | 146 => 116
    | 53 => 22
    | 148 => 83
    | 70 => 96
    | 37 => 85
    | 75 => 101
    | 127 => 118
    | 164 => 131
    | 80 => 105
    | n => n,
  g := fun x => x }
theorem Tryz.lays105 : Lays.n105 Tryz.prog Tryz.lays105_ren :=
  { mixed := by kernel_rfl,
    f99 := Eq.trans Tryz.func68 (congrArg some (by kernel_rfl)),
    f105 := Eq.trans Tryz.func48 (congrArg some (by kernel_rfl)),
    f165 := Eq.trans Tryz.func69 (congrArg some (by kernel_rfl)),
    f166 := Eq.trans Tryz.func70 (congrArg some (by kernel_rfl)),
    f169 := Eq.trans Tryz.func72 (congrArg some (by kernel_rfl)),
    f170 := Eq.trans Tryz.func71 (congrArg some (by kernel_rfl)),
    f206 := Eq.trans Tryz.func84 (congrArg some (by kernel_rfl)),
    f212 := Eq.trans Tryz.func67 (congrArg some (by kernel_rfl)),
    f240 := Eq.trans Tryz.func85 (congrArg some (by kernel_rfl)),
    f241 := Eq.trans Tryz.func86 (congrArg some (by kernel_rfl)),
    f263 := Eq.trans Tryz.func83 (congrArg some (by kernel_rfl)),
    f264 := Eq.trans Tryz.func78 (congrArg some (by kernel_rfl)),
    f276 := Eq.trans Tryz.func95 (congrArg some (by kernel_rfl)),
    f277 := Eq.trans Tryz.func96 (congrArg some (by kernel_rfl)),
    t0 := Tryz.underlying0,
    a0 := Tryz.isAgg0,
    z0 := Tryz.sizeOf0,
    v0 := Tryz.zeroValue0,
    t3 := Tryz.underlying3,
    a3 := Tryz.isAgg3,
    z3 := Tryz.sizeOf3,
    v3 := Tryz.zeroValue3,
    t4 := Tryz.underlying4,
    a4 := Tryz.isAgg4,
    z4 := Tryz.sizeOf4,
    v4 := Tryz.zeroValue4,
    t5 := Tryz.underlying5,
    a5 := Tryz.isAgg5,
    z5 := Tryz.sizeOf5,
    v5 := Tryz.zeroValue5,
    t9 := Tryz.underlying9,
    a9 := Tryz.isAgg9,
    z9 := Tryz.sizeOf9,
    v9 := Tryz.zeroValue9,
    t20 := Tryz.underlying20,
    a20 := Tryz.isAgg20,
    z20 := Tryz.sizeOf20,
    v20 := Tryz.zeroValue20,
    t37 := Tryz.underlying85,
    a37 := Tryz.isAgg85,
    z37 := Tryz.sizeOf85,
    v37 := Tryz.zeroValue85,
    t46 := Tryz.underlying37,
    a46 := Tryz.isAgg37,
    z46 := Tryz.sizeOf37,
    v46 := Tryz.zeroValue37,
    t51 := Tryz.underlying115,
    a51 := Tryz.isAgg115,
    z51 := Tryz.sizeOf115,
    v51 := Tryz.zeroValue115,
    t53 := Tryz.underlying22,
    a53 := Tryz.isAgg22,
    z53 := Tryz.sizeOf22,
    v53 := Tryz.zeroValue22,
    t70 := Tryz.underlying96,
    a70 := Tryz.isAgg96,
    z70 := Tryz.sizeOf96,
    v70 := Tryz.zeroValue96,
    t72 := Tryz.underlying98,
    a72 := Tryz.isAgg98,
    z72 := Tryz.sizeOf98,
    v72 := Tryz.zeroValue98,
    t75 := Tryz.underlying101,
    a75 := Tryz.isAgg101,
    z75 := Tryz.sizeOf101,
    v75 := Tryz.zeroValue101,
    t76 := Tryz.underlying102,
    a76 := Tryz.isAgg102,
    z76 := Tryz.sizeOf102,
    v76 := Tryz.zeroValue102,
    t109 := Tryz.underlying93,
    a109 := Tryz.isAgg93,
    z109 := Tryz.sizeOf93,
    v109 := Tryz.zeroValue93,
    t127 := Tryz.underlying118,
    a127 := Tryz.isAgg118,
    z127 := Tryz.sizeOf118,
    v127 := Tryz.zeroValue118,
    t146 := Tryz.underlying116,
    a146 := Tryz.isAgg116,
    z146 := Tryz.sizeOf116,
    v146 := Tryz.zeroValue116,
    t148 := Tryz.underlying83,
    a148 := Tryz.isAgg83,
    z148 := Tryz.sizeOf83,
    v148 := Tryz.zeroValue83,
    t164 := Tryz.underlying131,
    a164 := Tryz.isAgg131,
    z164 := Tryz.sizeOf131,
    v164 := Tryz.zeroValue131 }
theorem Tryz.Builder_Extra_105 : Builder.Extra Tryz.prog Tryz.lays105_ren where
  sizeBuilder := by kernel_rfl
  liesBuilder := by kernel_rfl
  t5 := Tryz.underlying5
  a5 := Tryz.isAgg5
  z5 := Tryz.sizeOf5
  v5 := Tryz.zeroValue5
  infoByte := by kernel_rfl
  cellsByte := by kernel_rfl
  sizeByte := by kernel_rfl
  neB5 := by decide
open Go.RowKit Go.Lib in
/-- **strings.Repeat: count ≥ 0, the result within one allocation: count copies of s.** (LAID: no walk: one application.) -/
theorem Tryz.strings_Repeat (s : ByteArray) (c : Nat) (w : World) (hc : c ≤ 9223372036854775807) (hlen : s.size * c ≤ 140737488355328) :
    Calls Tryz.prog 48 #[.string s, .int .i64 c] w fun e w' => e = .returned (.string ⟨(Lib.repeatL s.data.toList c).toArray⟩) ∧ Below w.heap.size w w' := Any.strings_Repeat Tryz.lays105 Tryz.Builder_Extra_105 s c w hc hlen
def Tryz.laysNm217_ren : Go.Shelf.Ren :=
{
  f := fun x =>
    match x with
    | 17 => 49
    | n => n,
  t := fun x =>
    match x with
    | 24 => 71
    | 9 => 9
    | 3 => 3
    | 4 => 4
    | 0 => 0
    | n => n,
  g := fun x => x }
theorem Tryz.laysNm217 : Lays2.n17 Tryz.prog Tryz.laysNm217_ren :=
  { mixed := by kernel_rfl,
    f17 := Eq.trans Tryz.func49 (congrArg some (by kernel_rfl)),
    t0 := Tryz.underlying0,
    a0 := Tryz.isAgg0,
    z0 := Tryz.sizeOf0,
    v0 := Tryz.zeroValue0,
    t3 := Tryz.underlying3,
    a3 := Tryz.isAgg3,
    z3 := Tryz.sizeOf3,
    v3 := Tryz.zeroValue3,
    t4 := Tryz.underlying4,
    a4 := Tryz.isAgg4,
    z4 := Tryz.sizeOf4,
    v4 := Tryz.zeroValue4,
    t9 := Tryz.underlying9,
    a9 := Tryz.isAgg9,
    z9 := Tryz.sizeOf9,
    v9 := Tryz.zeroValue9,
    t24 := Tryz.underlying71,
    a24 := Tryz.isAgg71,
    z24 := Tryz.sizeOf71,
    v24 := Tryz.zeroValue71 }
open Go.RowKit Go.Lib Go.Sort in
/-- slices.Reverse at []string: "Reverse reverses the elements of the slice in place.": THE SLICE's CELLS HOLD 'zs.reverse' BEHIND THE CALL; all else is as it was, but for the count of draws (the exchange 's[i], s[j] = s[j], s[i]' draws its order, once a round). IN THE WORDS OF slices.Sort's CONTRACT: 'Holds': the cells hold zs and none is frozen; 'putRow': the world with those cells holding another array. A slice of length 0 that is not nil is among them ('zs = []'); nil: '.._nil'. (LAID: no walk: one application.) -/
theorem Tryz.slices_Reverse_string (blk off cap : Nat) (zs : List (List UInt8)) (w : World) (hH : Holds encStr w blk off zs.toArray) (hsz : zs.length ≤ 9223372036854775807) :
    Calls Tryz.prog 49 #[.slice (some ⟨blk, off, none⟩) zs.length cap] w fun e w' => e = .returned (.tuple #[]) ∧ ∃ n, w' = putRow encStr (Sort.ahead w n) blk off zs.reverse.toArray := Any.slices_Reverse_string Tryz.laysNm217 blk off cap zs w hH hsz

end Go.Proofs
namespace Go.Proofs.AMT
open Go Go.Shelf Go.RowKit Go.Sort Go.Lib
theorem holds_zero0 (w : World) (T : TypeId) (nd : Nat) (hs : nd ≤ 24) : Holds (fun (b : UInt8) => Value.int .u8 (b.toNat : Int)) (w.alloc (.cells zeros24 T)) w.heap.size 0 (Array.replicate nd (0 : UInt8)) := fun j hj => by
  have hj' : j < nd := by simpa using hj
  refine ⟨?_, World.frozen?_alloc_new _ _ _ _⟩
  rw [World.cell?_alloc_new, zeros24_at _ (by omega), getElem!_pos _ j hj]
  simp
set_option maxHeartbeats 6400000 in
set_option maxRecDepth 100000 in
/-- internal/strconv.FormatUint at base 10. -/
theorem fmt_uint (u : Nat) (hu64 : u < 18446744073709551616) (w : World) (htab : Lib.TabIs Tryz.prog w "internal/strconv.uint64pow10" .u64 Lib.pow10Tab) :
    Calls Tryz.prog 66 #[.int .u64 u, .int .i64 10] w fun e w' => e = .returned (.string ⟨(Lib.decDigits u).toArray⟩) ∧ Below w.heap.size w w' := by
  have e74 : ∀ args w, (callFunc 74 args).run Tryz.prog w = .ok (.enter 74 args) w := enters_of Tryz.func74 (by kernel_rfl) rfl
  have e75 : ∀ args w, (callFunc 75 args).run Tryz.prog w = .ok (.enter 75 args) w := enters_of Tryz.func75 (by kernel_rfl) rfl
  have e76 : ∀ args w, (callFunc 76 args).run Tryz.prog w = .ok (.enter 76 args) w := enters_of Tryz.func76 (by kernel_rfl) rfl
  by_cases hs : u < 100
  · go_enter Tryz.func66, Tryz.ntmps66
    go_wp2_with (go_at_fn 74; refine (Tryz.internal_strconv_small u hs _).mono ?_; rintro e w' ⟨rfl, rfl⟩)
    go_ret
    exact ⟨rfl, Below.refl _ _⟩
  · have hu1 : 1 ≤ u := by omega
    have hnd20 : Lib.nDigits u ≤ 20 := by have := Lib.numDigits_eq u hu1 hu64; split at this <;> omega
    have hal : Tryz.prog.arrayLen 107 = 24 := by simp [Program.arrayLen, Tryz.underlying107]
    have hsl : ∀ W, (Instr.sliceAt 107 (.pointer (some ⟨w.heap.size, 0, none⟩)) none (some (.int .i64 (Lib.nDigits u : Int))) none).run Tryz.prog W = .ok (.slice (some ⟨w.heap.size, 0, none⟩) (Lib.nDigits u) 24) W := fun W => by
      rw [run_sliceAt_array_h W 107 ⟨w.heap.size, 0, none⟩ (by simp [Program.arrayLen, Program.elem, Tryz.underlying107]) .i64 (Lib.nDigits u : Int) (by omega) (by rw [hal]; omega)]
      go_simp
      try omega
    have hH0 := holds_zero0 w 107 (Lib.nDigits u) (by omega)
    have hfmt := Tryz.internal_strconv_formatBase10 w.heap.size 0 24 u (Array.replicate (Lib.nDigits u) 0) (w.alloc (.cells Lib.zeros24 107)) hH0 (by rw [Array.size_replicate]; exact Lib.lt_pow_nDigits u) hu64 (by rw [Array.size_replicate]; omega)
    rw [Array.size_replicate] at hfmt
    have HH0 := Lib.hid hH0
    clear hH0 hal
    go_enter Tryz.func66, Tryz.ntmps66
    go_wp2_with (first
      | (go_at_fn 75; refine (Tryz.internal_strconv_numDigits u hu1 hu64 _ (Lib.tabIs_alloc htab _)).mono ?_; rintro e w' ⟨rfl, rfl⟩))
    go_at_fn 76
    refine hfmt.mono ?_
    rintro e w' ⟨rfl, k, v', dk, rfl, hF⟩
    have hcv : (convert 85 9 (.slice (some ⟨w.heap.size, 0, none⟩) (Lib.nDigits u) 24)).run Tryz.prog ((putRow (fun (b : UInt8) => Value.int .u8 (b.toNat : Int)) (w.alloc (.cells Lib.zeros24 107)) w.heap.size 0 dk).drewN k) = .ok (.string ⟨(Lib.decDigits u).toArray⟩) ((putRow (fun (b : UInt8) => Value.int .u8 (b.toNat : Int)) (w.alloc (.cells Lib.zeros24 107)) w.heap.size 0 dk).drewN k) := by
      have h := run_convert_bytes_back (P := Tryz.prog) ((putRow (fun (b : UInt8) => Value.int .u8 (b.toNat : Int)) (w.alloc (.cells Lib.zeros24 107)) w.heap.size 0 dk).drewN k) 85 9 5 ⟨w.heap.size, 0, none⟩ 24 (Lib.decDigits u) Tryz.underlying85 Tryz.underlying5 Tryz.underlying9 (fun j hj => by
        rw [Lib.row_is_numeral hF j hj, Lib.add_plain, World.cell?_drewN]
        exact cell?_putRow (fun (b : UInt8) => Value.int .u8 (b.toNat : Int)) _ w.heap.size 0 _ dk HH0.out (by rw [hF.size, Array.size_replicate]) j (by rw [hF.size]; rw [Lib.decDigits_length] at hj; exact hj))
      rw [Lib.decDigits_length] at h
      exact h
    go_wp2
    go_ret
    refine ⟨rfl, ?_⟩
    have hb := below_putRow (enc := fun (b : UInt8) => Value.int .u8 (b.toNat : Int)) (q := 0) (d := dk) ((Below.refl w.heap.size w).alloc (Nat.le_refl _) (.cells Lib.zeros24 107)) (Nat.le_refl _)
    rw [ahead_zero] at hb
    exact hb.trans ⟨rfl, rfl, rfl, Nat.le_refl _, fun _ _ => rfl⟩
set_option maxHeartbeats 6400000 in
theorem fmtUint (u : Nat) (hu64 : u < 18446744073709551616) (w : World) (htab : Lib.TabIs Tryz.prog w "internal/strconv.uint64pow10" .u64 Lib.pow10Tab) :
    Calls Tryz.prog 47 #[.int .u64 u, .int .i64 10] w fun e w' => e = .returned (.string ⟨(Lib.decDigits u).toArray⟩) ∧ Below w.heap.size w w' := by
  have e66 : ∀ args w, (callFunc 66 args).run Tryz.prog w = .ok (.enter 66 args) w := enters_of Tryz.func66 (by kernel_rfl) rfl
  go_enter Tryz.func47, Tryz.ntmps47
  go_wp2_with (go_at_fn 66; refine (fmt_uint u hu64 _ htab).mono ?_; rintro e w' ⟨rfl, hb⟩)
  go_ret
  exact ⟨rfl, hb⟩
end Go.Proofs.AMT
namespace Go.Proofs.AMT
open Go Go.Shelf Go.RowKit Go.Sort Go.Lib Go.AM Go.AM.LN
/-- A slice of words of the call's own. -/
def OwnS (w : World) (base : Nat) (v : Value) (l : List Int) : Prop :=
  (v = .slice none 0 0 ∧ l = []) ∨ ∃ b cap arr T rest, v = .slice (some ⟨b, 0, none⟩) l.length cap ∧ l.length ≤ cap ∧ cap ≤ maxLen ∧ base ≤ b ∧ w.heap[b]? = some (.cells arr T (0, 0)) ∧ arr.toList = l.map (.int .u64) ++ rest
theorem OwnS.rep {w : World} {base : Nat} {v : Value} {l : List Int} (h : OwnS w base v l) : RepD w (.sl .u64 l) v := by
  rcases h with ⟨rfl, rfl⟩ | ⟨b, cap, arr, T, rest, rfl, h1, h2, h3, h4, h5⟩
  · exact ⟨none, 0, rfl, Nat.le_refl _, Nat.zero_le _, fun h => absurd rfl h⟩
  · refine ⟨some ⟨b, 0, none⟩, cap, rfl, h1, h2, fun _ => ⟨_, rfl, fun i hi => ?_⟩⟩
    refine cells_of_row h4 l.length i _ ?_
    rw [h5, List.getElem?_take, if_pos hi, List.getElem?_append_left (by simpa using hi)]
    simp [hi]
theorem OwnS.mono {w : World} {base base' : Nat} {v : Value} {l : List Int} (h : OwnS w base v l) (hb : base' ≤ base) : OwnS w base' v l := by
  rcases h with h | ⟨b, cap, arr, T, rest, h0, h1, h2, h3, h4⟩
  · exact .inl h
  · exact .inr ⟨b, cap, arr, T, rest, h0, h1, h2, Nat.le_trans hb h3, h4⟩
theorem OwnS.grown {w w' : World} {base : Nat} {v : Value} {l : List Int} {row : Option Nat} (h : OwnS w base v l) (hg : w.grownBy w' row) (hne : v.ownBlock = none ∨ v.ownBlock ≠ row) : OwnS w' base v l := by
  rcases h with h | ⟨b, cap, arr, T, rest, rfl, h1, h2, h3, h4, h5⟩
  · exact .inl h
  · refine .inr ⟨b, cap, arr, T, rest, rfl, h1, h2, h3, ?_, h5⟩
    have hlt : b < w.heap.size := by
      rcases Nat.lt_or_ge b w.heap.size with h | h
      · exact h
      · rw [Array.getElem?_eq_none h] at h4; cases h4
    rw [hg.block b hlt (by rcases hne with h | h; cases h; exact h)]
    exact h4
theorem OwnS.below {w w' : World} {base : Nat} {v : Value} {l : List Int} (h : OwnS w base v l) (hb : Below w.heap.size w w') : OwnS w' base v l :=
  h.grown (row := none) ⟨hb.os, hb.tape, hb.output, hb.size, fun k hk _ => hb.block k hk⟩ (by cases v.ownBlock <;> simp)
theorem OwnS.lt {w : World} {base : Nat} {v : Value} {l : List Int} (h : OwnS w base v l) : ∀ k, v.ownBlock = some k → base ≤ k ∧ k < w.heap.size := by
  intro k hk
  rcases h with ⟨rfl, rfl⟩ | ⟨b, cap, arr, T, rest, rfl, h1, h2, h3, h4, h5⟩
  · cases hk
  · cases hk
    refine ⟨h3, ?_⟩
    rcases Nat.lt_or_ge b w.heap.size with h | h
    · exact h
    · rw [Array.getElem?_eq_none h] at h4; cases h4
theorem own_below {w w' : World} {B e size n : Nat} {v : Value} {xs : List Value} (h : w.ownsRow B e size v n xs) (hb : Below w.heap.size w w') : w'.ownsRow B e size v n xs :=
  h.kept (row := none) ⟨hb.os, hb.tape, hb.output, hb.size, fun k hk _ => hb.block k hk⟩ (by cases v.ownBlock <;> simp)
theorem own_of_fresh {w w' : World} {vs : List Value} {l : List Int} {v : Value} (h : RepR w w' vs (.fresh .u64 l) v) : ∃ ao ca, v = .slice ao l.length ca ∧ OwnS w' w.heap.size v l := by
  rcases h with ⟨rfl, rfl⟩ | ⟨b, cap, arr, T, rest, rfl, h1, h2, h3, h4, h5⟩
  · exact ⟨none, 0, rfl, .inl ⟨rfl, rfl⟩⟩
  · exact ⟨_, _, rfl, .inr ⟨b, cap, arr, T, rest, rfl, h1, h2.1, h3, h4, h5⟩⟩
theorem trim_c (w : World) (v : Value) (a : List Int) (hT : Lib.TabIs Tryz.prog w "internal/strconv.uint64pow10" .u64 Lib.pow10Tab) (hr : RepD w (.sl .u64 a) v) (la : lim a) (hl : a.length ≤ 100000000) :
    Calls Tryz.prog 45 #[v] w fun e w' => ∃ ao ca, e = .returned (.slice ao (limbs (val a)).length ca) ∧ OwnS w' w.heap.size (.slice ao (limbs (val a)).length ca) (limbs (val a)) ∧ Below w.heap.size w w' := by
  obtain ⟨fn, h1, h2, h3, h4⟩ := sound_45
  refine (h4 [.sl .u64 a] _ _ (s45_eq a) ⟨la, hl⟩ w [v] hT ⟨hr, trivial⟩).mono ?_
  rintro e w' ⟨v', rfl, hb, hv⟩
  obtain ⟨ao, ca, rfl, ho⟩ := own_of_fresh (vs := [v]) hv
  exact ⟨ao, ca, rfl, ho, hb⟩
theorem word_c (w : World) (v : Value) (a : List Int) (n : Nat) (hT : Lib.TabIs Tryz.prog w "internal/strconv.uint64pow10" .u64 Lib.pow10Tab) (hr : RepD w (.sl .u64 a) v) (la : lim a) (hl : a.length ≤ 100000000) (hn : 0 < n ∧ n < 18446744073709551616) :
    Calls Tryz.prog 46 #[v, .int .u64 n] w fun e w' => ∃ ao ca, e = .returned (.tuple #[.slice ao (limbs (val a / n)).length ca, .int .u64 (val a % n : Nat)]) ∧ OwnS w' w.heap.size (.slice ao (limbs (val a / n)).length ca) (limbs (val a / n)) ∧ Below w.heap.size w w' := by
  obtain ⟨fn, h1, h2, h3, h4⟩ := sound_46
  refine (h4 [.sl .u64 a, .v (.int .u64 n)] _ _ (s46_eq a n) ⟨⟨la, hl⟩, by omega, by omega⟩ w [v, .int .u64 n] hT ⟨hr, rfl, trivial⟩).mono ?_
  rintro e w' ⟨v', rfl, hb, us, rfl, hv, _⟩
  match us, hv with
  | [u1, u2], ⟨hv1, hv2, _⟩ =>
    obtain ⟨ao, ca, rfl, ho⟩ := own_of_fresh (vs := [v, .int .u64 n]) hv1
    have hv2' : u2 = .int .u64 ((val a % (n : Int).toNat : Nat) : Int) := hv2
    subst hv2'
    rw [Int.toNat_natCast] at ho ⊢
    exact ⟨ao, ca, rfl, ho, hb⟩
def lenV : Value → Nat
  | .slice _ n _ => n
  | _ => 0
/-- What the pieces say, the highest last. -/
def flat (ps : List ByteArray) : List UInt8 := (ps.reverse.map (·.data.toList)).flatten
theorem flat_snoc (ps : List ByteArray) (s : ByteArray) : flat (ps ++ [s]) = s.data.toList ++ flat ps := by simp [flat]
structure DgI (N x : Nat) (ps : List ByteArray) : Prop where
  b : ps.length ≤ 2000
  le : x * 10 ^ (19 * ps.length) ≤ N
  h : (ps = [] ∧ x = N) ∨ (ps ≠ [] ∧ 0 < N ∧ ∃ r, r < 10 ^ (19 * ps.length) ∧ N = x * 10 ^ (19 * ps.length) + r ∧ flat ps = if x = 0 then decDigits r else decW r (19 * ps.length))
theorem pieces_b {N x k L : Nat} (hx : 0 < x) (h : x * 10 ^ (19 * k) ≤ N) (hN : N < 2 ^ (64 * L)) (hL : L ≤ 1000) : k < 2000 := by
  have h1 : 2 ^ (63 * k) ≤ 10 ^ (19 * k) := by
    rw [Nat.pow_mul, Nat.pow_mul]
    exact Nat.pow_le_pow_left (by decide) k
  have h2 : 1 * 10 ^ (19 * k) ≤ x * 10 ^ (19 * k) := Nat.mul_le_mul_right _ hx
  have h3 : 2 ^ (63 * k) < 2 ^ (64 * L) := by omega
  have h4 := (Nat.pow_lt_pow_iff_right (show 1 < 2 by omega)).1 h3
  omega
theorem dg_step {N x : Nat} {ps : List ByteArray} (h : DgI N x ps) (hk : ps.length < 2000) (hx : 0 < x) {s : ByteArray} (hs : s.data.toList = if x / 10000000000000000000 = 0 then decDigits (x % 10000000000000000000) else decW (x % 10000000000000000000) 19) :
    DgI N (x / 10000000000000000000) (ps ++ [s]) := by
  have hp : 10 ^ (19 * (ps ++ [s]).length) = 10000000000000000000 * 10 ^ (19 * ps.length) := by
    rw [List.length_append, List.length_singleton, Nat.mul_add, Nat.mul_one, Nat.pow_add, Nat.mul_comm]
  have hq := Nat.div_add_mod x 10000000000000000000
  have hm := Nat.mod_lt x (show 0 < 10000000000000000000 by omega)
  obtain ⟨r, hr, hN, hf⟩ : ∃ r, r < 10 ^ (19 * ps.length) ∧ N = x * 10 ^ (19 * ps.length) + r ∧ flat ps = decW r (19 * ps.length) := by
    rcases h.h with ⟨rfl, rfl⟩ | ⟨h1, h2, r, h3, h4, h5⟩
    · exact ⟨0, by simp, by simp, rfl⟩
    · rw [if_neg (by omega)] at h5
      exact ⟨r, h3, h4, h5⟩
  have h0 : 0 < N := by
    have : 1 * 10 ^ (19 * ps.length) ≤ x * 10 ^ (19 * ps.length) := Nat.mul_le_mul_right _ hx
    omega
  generalize x / 10000000000000000000 = q at *
  generalize x % 10000000000000000000 = m at *
  have hN2 : N = q * 10 ^ (19 * (ps ++ [s]).length) + (m * 10 ^ (19 * ps.length) + r) := by
    rw [hp, hN, ← hq]; grind
  have hlt : m * 10 ^ (19 * ps.length) + r < 10 ^ (19 * (ps ++ [s]).length) := by
    rw [hp]
    have : (m + 1) * 10 ^ (19 * ps.length) ≤ 10000000000000000000 * 10 ^ (19 * ps.length) := Nat.mul_le_mul_right _ hm
    rw [Nat.add_mul, Nat.one_mul] at this
    omega
  refine ⟨by simp; omega, by omega, .inr ⟨by simp, h0, _, hlt, hN2, ?_⟩⟩
  rw [flat_snoc, hs, hf]
  by_cases hq0 : q = 0
  · rw [if_pos hq0, if_pos hq0]
    by_cases hl : ps.length = 0
    · rw [hl] at hr ⊢
      simp only [Nat.mul_zero, Nat.pow_zero, Nat.mul_one] at hr ⊢
      rw [show r = 0 by omega]; simp [decW]
    · rw [decD_app _ _ _ (by omega) hr]
  · rw [if_neg hq0, if_neg hq0, List.length_append, List.length_singleton, Nat.mul_add, Nat.mul_one, Nat.add_comm (19 * ps.length), decW_app _ _ _ _ hr]
/-- The round's end. -/
theorem dg_end {w wr w1 w2 w3 : World} {N x q m : Nat} {ps : List ByteArray} {vo ao1 : Option Addr} {cv ca1 n1 : Nat} {v' : Value} {o : Obj} {s : ByteArray}
    (hnx : Below w.heap.size w wr) (hV : wr.ownsRow w.heap.size 9 1 (.slice vo ps.length cv) ps.length (ps.map Value.string)) (hb1 : Below wr.heap.size wr w1) (hb2 : Below w1.heap.size w1 w2)
    (hA1 : OwnS w1 wr.heap.size (.slice ao1 n1 ca1) (limbs q)) (hn1 : n1 = (limbs q).length) (hown' : w3.ownsRow w.heap.size 9 1 v' (ps.length + 1) (ps.map Value.string ++ [.string s]))
    (hgrow3 : (w2.alloc o).grownBy w3 (Value.slice vo ps.length cv).ownBlock) (hblk : v'.ownBlock = (Value.slice vo ps.length cv).ownBlock ∨ v'.ownBlock = some (w2.alloc o).heap.size)
    (hI : DgI N x ps) (hk : ps.length < 2000) (hxp : 0 < x) (hq : x / 10000000000000000000 = q) (hm : x % 10000000000000000000 = m) (hs : s.data.toList = if q = 0 then decDigits m else decW m 19) :
    (∃ x ao ca ps vo cv, Value.slice ao1 n1 ca1 = Value.slice ao (limbs x).length ca ∧ v' = Value.slice vo ps.length cv ∧ OwnS w3 w.heap.size (Value.slice ao1 n1 ca1) (limbs x) ∧ w3.ownsRow w.heap.size 9 1 v' ps.length (List.map Value.string ps) ∧
      ((Value.slice ao1 n1 ca1).ownBlock = none ∨ (Value.slice ao1 n1 ca1).ownBlock ≠ v'.ownBlock) ∧ Below w.heap.size w w3 ∧ DgI N x ps) ∧ 3000 - lenV v' < 3000 - lenV (Value.slice vo ps.length cv) := by
  have z0 := hnx.size
  have z1 := hb1.size
  have z2 := hb2.size
  have z3 : (w2.alloc o).heap.size = w2.heap.size + 1 := by simp
  have hpb := hV.lt
  have hal := hA1.lt
  obtain ⟨g3, cap3, hv3⟩ : ∃ g3 cap3, v' = .slice (some ⟨g3, 0, none⟩) (ps.length + 1) cap3 := by
    rcases hown'.2 with ⟨_, h⟩ | ⟨g3, cap3, _, h, _⟩
    · omega
    · exact ⟨g3, cap3, h⟩
  have hAa : OwnS (w2.alloc o) wr.heap.size (.slice ao1 n1 ca1) (limbs q) := (hA1.below hb2).grown (row := none) (World.grownBy_alloc w2 o none) (by cases (Value.slice ao1 n1 ca1).ownBlock <;> simp)
  have hA3 : OwnS w3 wr.heap.size (.slice ao1 n1 ca1) (limbs q) := by
    refine hAa.grown hgrow3 ?_
    cases hb : (Value.slice ao1 n1 ca1).ownBlock with
    | none => exact .inl rfl
    | some b =>
      right
      intro h
      have h1 := hal b hb
      have h2 := hpb b h.symm
      omega
  refine ⟨⟨q, ao1, ca1, ps ++ [s], some ⟨g3, 0, none⟩, cap3, by rw [hn1], by rw [hv3]; simp, hA3.mono z0, ?_, ?_, ?_, ?_⟩, ?_⟩
  · rw [List.map_append, List.length_append]; exact hown'
  · cases hb : (Value.slice ao1 n1 ca1).ownBlock with
    | none => exact .inl rfl
    | some b =>
      right
      intro h
      have h1 := hal b hb
      rcases hblk with h2 | h2
      · have h3 := hpb b (h2.symm.trans h.symm)
        omega
      · rw [h2] at h
        have := Option.some.inj h
        omega
  · exact (((hnx.trans (hb1.mono z0)).trans (hb2.mono (by omega))).alloc (by omega) o).grown hgrow3 (by omega) (fun b hb => (hpb b hb).1)
  · have := dg_step hI hk hxp (s := s) (by rw [hq, hm]; exact hs)
    rw [hq] at this
    exact this
  · rw [hv3]; simp only [lenV]; omega
set_option maxHeartbeats 1600000 in
set_option maxRecDepth 100000 in
theorem digits_c (w : World) (v : Value) (a : List Int) (hT : Lib.TabIs Tryz.prog w "internal/strconv.uint64pow10" .u64 Lib.pow10Tab) (hr : RepD w (.sl .u64 a) v) (la : lim a) (hl : a.length ≤ 1000) :
    Calls Tryz.prog 24 #[v] w fun e w' => e = .returned (.tuple #[.string ⟨(Lib.decDigits (val a)).toArray⟩, .int .i64 0]) ∧ Below w.heap.size w w' := by
  have e45 : ∀ args w, (callFunc 45 args).run Tryz.prog w = .ok (.enter 45 args) w := enters_of Tryz.func45 (by kernel_rfl) rfl
  have e46 : ∀ args w, (callFunc 46 args).run Tryz.prog w = .ok (.enter 46 args) w := enters_of Tryz.func46 (by kernel_rfl) rfl
  have e47 : ∀ args w, (callFunc 47 args).run Tryz.prog w = .ok (.enter 47 args) w := enters_of Tryz.func47 (by kernel_rfl) rfl
  have e48 : ∀ args w, (callFunc 48 args).run Tryz.prog w = .ok (.enter 48 args) w := enters_of Tryz.func48 (by kernel_rfl) rfl
  have e49 : ∀ args w, (callFunc 49 args).run Tryz.prog w = .ok (.enter 49 args) w := enters_of Tryz.func49 (by kernel_rfl) rfl
  have e50 : ∀ args w, (callFunc 50 args).run Tryz.prog w = .ok (.enter 50 args) w := enters_of Tryz.func50 (by kernel_rfl) rfl
  have la' := lim_limbs (val a)
  have hlen : (limbs (val a)).length ≤ 1000 := by rw [len_limbs_sz la]; exact Nat.le_trans (sz_le a) hl
  obtain ⟨N, hN⟩ : ∃ N, val a = N := ⟨_, rfl⟩
  rw [hN] at hlen
  have hgt : decide (((limbs N).length : Int) > 2000) = false := by simp; omega
  go_enter Tryz.func24, Tryz.ntmps24
  go_wp2_with (go_at_fn 45; refine (trim_c _ _ a hT hr la (by omega)).mono ?_; rintro e w' ⟨ao, ca, rfl, hown, hb⟩; rw [hN] at hown ⊢)
  have hsz := hb.size
  obtain ⟨i0, hi, hz0, hz1, hz2⟩ := info_parts (by kernel_rfl : (Tryz.prog.info? 9).map (fun i => (i.zero, i.size, i.bytes)) = some (some (.string ByteArray.empty), 1, 16))
  go_loopw [0, 4] (fun A V wr => ∃ (x : Nat) (ao : Option Addr) (ca : Nat) (ps : List ByteArray) (vo : Option Addr) (cv : Nat), A = .slice ao (limbs x).length ca ∧ V = .slice vo ps.length cv ∧ OwnS wr w.heap.size A (limbs x) ∧ wr.ownsRow w.heap.size 9 1 V ps.length (ps.map Value.string) ∧ (A.ownBlock = none ∨ A.ownBlock ≠ V.ownBlock) ∧ Below w.heap.size w wr ∧ DgI N x ps)
    (fun _ V _ => 3000 - lenV V)
  case atStart => exact ⟨N, ao, ca, [], none, 0, rfl, rfl, hown, World.ownsRow_nil _ _ _ _, by cases ao <;> simp [Value.ownBlock], hb, ⟨Nat.zero_le _, by simp, .inl ⟨rfl, rfl⟩⟩⟩
  case round =>
    obtain ⟨x, ao, ca, ps, vo, cv, rfl, rfl, hA, hV, hne, hnx, hI⟩ := hrel
    have HN := Lib.hid hN
    have HL := Lib.hid hlen
    clear hown hr la' hN hlen la hl
    have hTr : Lib.TabIs Tryz.prog wr "internal/strconv.uint64pow10" .u64 Lib.pow10Tab := tab_below (by kernel_rfl) hT hnx
    have hxN : x ≤ N := Nat.le_trans (Nat.le_mul_of_pos_right _ (Nat.pow_pos (by omega))) hI.le
    have hnsz := hnx.size
    have HI := Lib.hid hI
    have HA := Lib.hid hA
    have HV := Lib.hid hV
    have HX := Lib.hid hxN
    clear hI hA hV hxN
    by_cases hx0 : x = 0
    · subst hx0
      have l0 : (limbs 0).length = 0 := rfl
      rw [l0]
      by_cases hps : ps = []
      · subst hps
        go_wp2
        go_ret2
        have hN0 : N = 0 := by
          rcases HI.out.h with ⟨_, h⟩ | ⟨h, _⟩
          · exact h.symm
          · exact absurd rfl h
        rw [HN.out, hN0, decD_small (by omega)]
        exact ⟨rfl, hnx⟩
      · have hpl : 0 < ps.length := List.length_pos_iff.2 hps
        have hV := HV.out
        rw [← map_encStr] at hV
        obtain ⟨g, cap, hv0, hg1, hg2, hcap, hcm, hzl, hH⟩ := holds_of_ownsRow hV (by intro h; injection h with _ h2; omega)
        injection hv0 with hv1 _ hv2
        subst hv1; subst hv2
        have hpN : ps.length ≤ 1000000 := Nat.le_trans HI.out.b (by omega)
        have hrev := Tryz.slices_Reverse_string g 0 cv (ps.map (·.data.toList)) wr hH (by rw [hzl]; omega)
        rw [hzl] at hrev
        have HH := Lib.hid hH
        have HV2 := Lib.hid hV
        clear hH hV HA HX
        go_wp2_with (go_at_fn 49; refine hrev.mono ?_; rintro e w' ⟨rfl, q, rfl⟩)
        have hV3 := ownsRow_putRow (q := q) (ys := (ps.map (·.data.toList)).reverse) HV2.out (by simp) (Nat.le_refl _)
        have hb3 := below_putRow (enc := encStr) (q := q) (d := (ps.map (·.data.toList)).reverse.toArray) hnx hg1
        obtain ⟨w3, hw3⟩ : ∃ w3, putRow encStr (Go.Sort.ahead wr q) g 0 (ps.map (·.data.toList)).reverse.toArray = w3 := ⟨_, rfl⟩
        rw [hw3] at hV3 hb3 ⊢
        rw [List.take_of_length_le (by simp), ← List.map_reverse, map_encStr] at hV3
        have hcells : ∀ (j : Nat) x, ps.reverse[j]? = some x → w3.cell? ⟨g, 0 + j, none⟩ = some (.string x) := by
          intro j x hj
          have hjl := (List.getElem?_eq_some_iff.1 hj).1
          rw [Nat.zero_add, hV3.cellAt j (by simp at hjl; omega), List.getElem?_map, hj]; rfl
        have hflat : Lib.join (ps.reverse.map (·.data.toList)) [] = flat ps := by
          unfold flat
          cases ps.reverse.map (·.data.toList) with
          | nil => rfl
          | cons x r => rw [join_cons]; simp [joinTail]
        have hfl : flat ps = decDigits N := by
          rcases HI.out.h with ⟨h, _⟩ | ⟨_, _, r, _, h2, h3⟩
          · exact absurd h hps
          · rw [h3, if_pos rfl]; rw [h2, Nat.zero_mul, Nat.zero_add]
        have hle : (decDigits N).length ≤ 64 * (limbs N).length + 1 := by
          refine decD_le (64 * (limbs N).length + 1) ?_ (by omega)
          refine Nat.lt_of_lt_of_le (lt_of_len (Nat.le_refl _)) (Nat.le_trans (Nat.pow_le_pow_left (show 2 ≤ 10 by omega) _) (Nat.pow_le_pow_right (by omega) (by omega)))
        have hL := HL.out
        have hjoin := Tryz.strings_Join g 0 cv ps.reverse ⟨#[]⟩ w3 hcells (by have := hb3.size; have := (hV3.lt g rfl).2; exact this) (by simp; omega) (by simpa using hcap) (by show (Lib.join _ []).length ≤ _; rw [hflat, hfl]; omega)
        have e1 : (⟨#[]⟩ : ByteArray).data.toList = [] := rfl
        rw [e1, hflat, hfl, List.length_reverse] at hjoin
        clear hV3 hcells hflat hfl hle HV2 HH HI HV
        go_wp2_with (go_at_fn 50; refine hjoin.mono ?_; rintro e w' ⟨rfl, hb5⟩)
        go_ret2
        rw [HN.out]
        exact ⟨rfl, hb3.trans (hb5.mono (hb3.size))⟩
    · have hxp : 0 < x := Nat.pos_of_ne_zero hx0
      have hl1 : 0 < (limbs x).length := Nat.pos_of_ne_zero fun h => hx0 (len_zero.1 h)
      have hgt0 : decide (((limbs x).length : Int) > 0) = true := by simp; omega
      have hL := HL.out
      have hxl := len_mono HX.out
      have hpN : ps.length < 2000 := pieces_b hxp HI.out.le (lt_of_len (Nat.le_refl _)) hL
      obtain ⟨q, hq⟩ : ∃ q, x / 10000000000000000000 = q := ⟨_, rfl⟩
      obtain ⟨m, hm⟩ : ∃ m, x % 10000000000000000000 = m := ⟨_, rfl⟩
      have hml : m < 10000000000000000000 := by rw [← hm]; exact Nat.mod_lt _ (by omega)
      have hwc := word_c wr (.slice ao (limbs x).length ca) (limbs x) 10000000000000000000 hTr HA.out.rep (lim_limbs _) (by omega) ⟨by omega, by omega⟩
      rw [val_limbs, hq, hm] at hwc
      have ev1 : ((10000000000000000000 : Nat) : Int) = 10000000000000000000 := rfl
      rw [ev1] at hwc
      have Hq := Lib.hid hq
      have Hm := Lib.hid hm
      clear hq hm hxl
      have hmd : (decDigits m).length ≤ 19 := decD_le 19 (by have : (10 : Nat) ^ 19 = 10000000000000000000 := rfl; omega) (by omega)
      by_cases hq0 : q = 0
      · have lq : (limbs q).length = 0 := by rw [hq0]; rfl
        rw [lq] at hwc
        go_wp2_with (first
          | (go_at_fn 46; refine hwc.mono ?_; rintro e w1 ⟨ao1, ca1, rfl, hA1, hb1⟩)
          | (go_at_fn 47; refine (fmtUint m (by omega) w1 (tab_below (by kernel_rfl) hTr hb1)).mono ?_; rintro e w2 ⟨rfl, hb2⟩)
          | (at_builtin; refine wpList_append_own_at _ rfl _ _ 71 rfl w.heap.size 9 i0 (.string ByteArray.empty) 1 16 Tryz.underlying71 hi hz0 hz1 hz2 rfl (by decide) _ _ _ rfl ((own_below (own_below HV.out hb1) hb2).alloc _) ⟨w2.heap.size, 0, none⟩ 1 1 [.string ⟨(decDigits m).toArray⟩] rfl rfl (cell_one_new _ _ _) (fun x hx => by simp at hx; subst hx; rfl) (by unfold maxLen; omega) (by omega) (by have := hb1.size; have := hb2.size; simp; omega) ?_; intro v' w3 hown' hgrow3 hnil3 hblk))
        exact dg_end hnx HV.out hb1 hb2 hA1 lq.symm hown' hgrow3 hblk HI.out hpN hxp Hq.out Hm.out (by rw [if_pos hq0])
      · have hql : 0 < (limbs q).length := Nat.pos_of_ne_zero fun h => hq0 (len_zero.1 h)
        have hgq : decide (((limbs q).length : Int) > 0) = true := by simp; omega
        have hsz1 : (⟨(decDigits m).toArray⟩ : ByteArray).size = (decDigits m).length := by simp [ByteArray.size]
        have hsub : (19 : Int) - (((⟨(decDigits m).toArray⟩ : ByteArray).size : Nat) : Int) = ((19 - (decDigits m).length : Nat) : Int) := by rw [hsz1]; omega
        go_wp2_with (first
          | (go_at_fn 46; refine hwc.mono ?_; rintro e w1 ⟨ao1, ca1, rfl, hA1, hb1⟩)
          | (go_at_fn 47; refine (fmtUint m (by omega) w1 (tab_below (by kernel_rfl) hTr hb1)).mono ?_; rintro e w2 ⟨rfl, hb2⟩))
        have hsub2 : (19 : Int) - ((decDigits m).length : Int) = ((19 - (decDigits m).length : Nat) : Int) := by omega
        have hrep := Tryz.strings_Repeat ⟨#[48]⟩ (19 - (decDigits m).length) w2 (by omega) (by have : (⟨#[48]⟩ : ByteArray).size = 1 := rfl; rw [this]; omega)
        rw [← hsub2] at hrep
        obtain ⟨R, hR⟩ : ∃ R : ByteArray, (⟨(repeatL (⟨#[48]⟩ : ByteArray).data.toList (19 - (decDigits m).length)).toArray⟩ : ByteArray) = R := ⟨_, rfl⟩
        rw [hR] at hrep
        have h1 : repeatL [48] (19 - (decDigits m).length) = List.replicate (19 - (decDigits m).length) 48 := by
          generalize 19 - (decDigits m).length = k
          induction k with
          | zero => rfl
          | succ k ih => rw [repeatL, ih]; rfl
        have hRs : R.size = 19 - (decDigits m).length := by
          rw [← hR]
          show (repeatL [48] (19 - (decDigits m).length)).toArray.size = _
          rw [h1]; simp
        obtain ⟨Z, hZ⟩ : ∃ Z : ByteArray, R ++ ⟨(decDigits m).toArray⟩ = Z := ⟨_, rfl⟩
        have hZl : Z.data.toList = decW m 19 := by
          rw [← hZ, ← hR]
          have h2 := bs_app (repeatL [48] (19 - (decDigits m).length)) (decDigits m)
          rw [h1, decD_pad 19 m (by have : (10 : Nat) ^ 19 = 10000000000000000000 := rfl; omega) (by omega), ← h1] at h2
          have h3 : (bs (repeatL [48] (19 - (decDigits m).length)) ++ bs (decDigits m)).data.toList = decW m 19 := by rw [h2]; simp [bs]
          exact h3
        have HZ := Lib.hid hZl
        clear hR h1 hZl
        refine hrep.mono ?_
        rintro e w4 ⟨rfl, hb4⟩
        clear hrep hwc hsub
        go_wp2_with (at_builtin; refine wpList_append_own_at _ rfl _ _ 71 rfl w.heap.size 9 i0 (.string ByteArray.empty) 1 16 Tryz.underlying71 hi hz0 hz1 hz2 rfl (by decide) _ _ _ rfl ((own_below (own_below (own_below HV.out hb1) hb2) hb4).alloc _) ⟨w4.heap.size, 0, none⟩ 1 1 [.string Z] rfl rfl (cell_one_new _ _ _) (fun x hx => by simp at hx; subst hx; rfl) (by unfold maxLen; omega) (by omega) (by have := hb1.size; have := hb2.size; have := hb4.size; simp; omega) ?_; intro v' w3 hown' hgrow3 hnil3 hblk)
        exact dg_end hnx HV.out hb1 (hb2.trans (hb4.mono hb2.size)) hA1 rfl hown' hgrow3 hblk HI.out hpN hxp Hq.out Hm.out (by rw [if_neg hq0]; exact HZ.out)
end Go.Proofs.AMT
namespace Go.Proofs.AMT
open Go Go.Shelf Go.RowKit Go.Lib Go.AM Go.AM.LN
noncomputable def sDigits : CSpec := fun ds => match ds with
  | [.sl .u64 a] => some (lim a ∧ a.length ≤ 1000, .many [.v (.string (bs (decDigits (val a)))), .v (.int .i64 0)])
  | _ => none
theorem sDigits_eq (a : List Int) : norm sDigits [.sl .u64 a] = some (lim a ∧ a.length ≤ 1000, .many [.v (.string (bs (decDigits (val a)))), .v (.int .i64 0)]) := rfl
theorem sound_digits : Sound Tryz.prog 24 .body (norm sDigits) := by
  refine sound_norm ⟨Tryz.f24, Tryz.func24, by kernel_rfl, by kernel_rfl, fun ds p r hs hp w vs hT hr => ?_⟩
  unfold sDigits at hs
  split at hs
  · rename_i a
    cases hs
    match vs, hr with
    | [v], ⟨hv, _⟩ =>
      refine (digits_c w v a hT hv hp.1 hp.2).mono ?_
      rintro e w' ⟨rfl, hb⟩
      exact ⟨_, rfl, hb, [.string (bs (decDigits (val a))), .int .i64 0], rfl, ⟨rfl, rfl, trivial⟩, by simp [freshBs]⟩
  · cases hs
noncomputable def sItoa : CSpec := fun ds => match ds with
  | [.v (.int .i64 n)] => some (-9223372036854775808 ≤ n ∧ n ≤ 9223372036854775807, .one (.v (.string (bs (itoa n)))))
  | _ => none
theorem sItoa_eq (n : Int) : norm sItoa [.v (.int .i64 n)] = some (-9223372036854775808 ≤ n ∧ n ≤ 9223372036854775807, .one (.v (.string (bs (itoa n))))) := rfl
theorem below_grow (w : World) (k : Nat) (os : Array Obj) : Below w.heap.size w (Go.Sort.grow (w.drewN k) os) := by
  refine ⟨rfl, rfl, rfl, ?_, fun j hj => ?_⟩
  · show w.heap.size ≤ (w.heap ++ os).size
    simp
  · show (w.heap ++ os)[j]? = w.heap[j]?
    rw [Array.getElem?_append_left hj]
theorem sound_itoa : Sound Tryz.prog 11 .body (norm sItoa) := by
  refine sound_norm ⟨Tryz.f11, Tryz.func11, by kernel_rfl, by kernel_rfl, fun ds p r hs hp w vs hT hr => ?_⟩
  unfold sItoa at hs
  split at hs
  · rename_i n
    cases hs
    match vs, hr with
    | [v], ⟨hv, _⟩ =>
      have hv' : v = .int .i64 n := hv
      subst hv'
      refine (Tryz.strconv_Itoa n hp.1 hp.2 w hT).mono ?_
      rintro e w' ⟨rfl, k, os, rfl⟩
      exact ⟨_, rfl, below_grow w k os, rfl⟩
  · cases hs
noncomputable def sBare : CSpec := fun ds => match ds with
  | [.v (.string s), .v (.string c)] => some (c = ⟨#[48]⟩, .one (.v (.string (bs (trimLeftB s.data.toList 48)))))
  | _ => none
theorem sBare_eq (s c : ByteArray) : norm sBare [.v (.string s), .v (.string c)] = some (c = ⟨#[48]⟩, .one (.v (.string (bs (trimLeftB s.data.toList 48))))) := rfl
theorem sound_bare : Sound Tryz.prog 73 .body (norm sBare) := by
  refine sound_norm ⟨Tryz.f73, Tryz.func73, by kernel_rfl, by kernel_rfl, fun ds p r hs hp w vs hT hr => ?_⟩
  unfold sBare at hs
  split at hs
  · rename_i s c
    cases hs
    match vs, hr with
    | [v1, v2], ⟨h1, h2, _⟩ =>
      have h1' : v1 = .string s := h1
      have h2' : v2 = .string c := h2
      subst h1' h2'
      have hc : c = ⟨#[48]⟩ := hp
      subst hc
      refine (Tryz.strings_TrimLeft_one s 48 (by decide) w).mono ?_
      rintro e w' ⟨rfl, rfl⟩
      exact ⟨_, rfl, Below.refl _ _, rfl⟩
  · cases hs
end Go.Proofs.AMT
set_option maxRecDepth 20000
namespace Go.Proofs.AMT
open Go.AM Go.AM.LN
attribute [local congr] bindO_congr bindS_congr bindG_congr awpOps_congr aOne_congr awp_congr aCond_congr awpD_congr dOne_congr keysB_congr nOne_congr thenP_congr blockP_congr Chk_congr Brk_congr
noncomputable def s51 : CSpec := fun ds => match ds with
  | [.v (.agg ⟨[.int .i64 cl, .bool sg, .bool si, .string D, .int .i64 ex]⟩)] => some ((cl = 2 ∨ cl = 3) ∧ D.size ≤ 10000, .one (.v (.string (bs (nanT cl sg si D.toList)))))
  | _ => none
theorem s51_eq (cl : Int) (sg : Bool) (si : Bool) (D : ByteArray) (ex : Int) : norm s51 [.v (.agg #[.int .i64 cl, .bool sg, .bool si, .string D, .int .i64 ex])] = some ((cl = 2 ∨ cl = 3) ∧ D.size ≤ 10000, .one (.v (.string (bs (nanT cl sg si D.toList))))) := rfl
noncomputable def G51 : Gam := [(11, .body, norm sItoa)]
theorem G51_ok : GamOk Tryz.prog G51 := gamOk_cons sound_itoa gamOk_nil
theorem k51_11 : lk G51 11 = some (.body, norm sItoa) := rfl
set_option maxHeartbeats 20000000 in
theorem wk51 (cl : Int) (sg : Bool) (si : Bool) (D : ByteArray) (ex : Int) (hp : (cl = 2 ∨ cl = 3) ∧ D.size ≤ 10000) : awp ty G51 (code Tryz.f51) (retP ty Tryz.f51.results.toList (.one (.v (.string (bs (nanT cl sg si D.toList)))))) (entry 0 [.v (.agg #[.int .i64 cl, .bool sg, .bool si, .string D, .int .i64 ex])]) [] := by
  unfold code
  simp only [Tryz.f51, Option.getD_some]
  obtain ⟨hc, hD⟩ := hp
  rw [bs_toList D] at hD ⊢
  rw [bs_list]
  rw [bs_size] at hD
  obtain ⟨l, hl⟩ : ∃ l, D.toList = l := ⟨_, rfl⟩
  rw [hl] at hD ⊢
  rcases hc with rfl | rfl
  all_goals cases sg
  all_goals cases si
  all_goals repeat' (first
    | ((first
       | (with_reducible refine ops_k ?_; intro X hX)
       | (with_reducible refine opsN_k ?_; intro X hX)
       | (with_reducible show awp _ _ _ _ (keepL _ _) _)
       | with_reducible refine awp_cond_k ?_
       | (with_reducible refine Brk_i ?_ ?_ <;> intro hb <;> (try simp only [hb]) <;> have hq := hb <;> try simp only [decide_eq_true_eq, decide_eq_false_iff_not, gt_iff_lt, ge_iff_le, Int.not_lt, Int.not_le, beq_iff_eq, beq_eq_false_iff_ne, Bool.not_eq_true', Bool.not_eq_false', Bool.and_eq_true, Bool.or_eq_true, Bool.and_eq_false_imp, Bool.or_eq_false_iff, ne_eq, Classical.not_not] at hq)
       | with_reducible refine retP_ret_i ?_
       | with_reducible refine retP_normal_i ?_
       | (with_reducible (show bindG _ _ _ _ _); simp only [hall])) <;> try simp only [Go.AM.S1, Go.AM.S2, Go.AM.S3, Go.AM.S4, Go.AM.S5, Go.AM.S6, Go.AM.S7, Go.AM.S8, Go.AM.S9, Nat.reduceAdd, Nat.reduceMul, Nat.reduceSub, ↓reduceIte, Nat.reduceEqDiff, Nat.reduceLT, Nat.reduceLeDiff, reduceCtorEq, Int.reduceBEq, Int.reduceBNe, Nat.reduceBEq, Int.reduceEq, Int.reduceToNat, Int.reduceLE, Int.reduceLT, Nat.reduceDiv, Int.reduceAdd, Int.reduceSub, Int.reduceMul, Int.reduceNeg, Int.reduceGT, Int.reduceGE, Nat.reduceMod, k51_11, sItoa_eq, ty_3, ty_4, ty_9, ty_80, bs_lit, bs_app, bs_size, bs_beq, bs_list, List.length_append, List.append_nil, List.nil_append, List.cons_append])
    | (with_reducible refine hX _ _ ?_; clear hX X)
    | (with_reducible refine ops_nil_i ?_; try clear hall all)
    | (with_reducible refine opsN_nil_i ?_; try clear hall all)
    | (with_reducible refine hK _ _ ?_; clear hK K)
    | with_reducible refine thenP_normal_i ?_
    | (with_reducible refine zzr19 _ _ ?_; try clear zzr19 Kzzr19)
    | (with_reducible refine zzsr17 _ _ ?_; try clear zzsr17 Kzzsr17)
    | (with_reducible refine zzr17 _ _ ?_; try clear zzr17 Kzzr17)
    | (with_reducible refine zzr16 _ _ ?_; try clear zzr16 Kzzr16)
    | (with_reducible refine zzsr14 _ _ ?_; try clear zzsr14 Kzzsr14)
    | (with_reducible refine zzr14 _ _ ?_; try clear zzr14 Kzzr14)
    | (with_reducible refine zzsr4 _ _ ?_; try clear zzsr4 Kzzsr4)
    | (with_reducible refine zzr6 _ _ ?_; try clear zzr6 Kzzr6)
    | (with_reducible refine zzr13 _ _ ?_; try clear zzr13 Kzzr13)
    | (with_reducible refine zzsr11 _ _ ?_; try clear zzsr11 Kzzsr11)
    | (with_reducible refine zzr11 _ _ ?_; try clear zzr11 Kzzr11)
    | (with_reducible refine zzr10 _ _ ?_; try clear zzr10 Kzzr10)
    | (with_reducible refine zzsr8 _ _ ?_; try clear zzsr8 Kzzsr8)
    | (with_reducible refine zzr8 _ _ ?_; try clear zzr8 Kzzr8)
    | (with_reducible refine zzr7 _ _ ?_; try clear zzr7 Kzzr7)
    | (with_reducible refine zzr5 _ _ ?_; try clear zzr5 Kzzr5)
    | (with_reducible refine zzr4 _ _ ?_; try clear zzr4 Kzzr4)
    | (with_reducible refine zzsr2 _ _ ?_; try clear zzsr2 Kzzsr2)
    | (with_reducible refine zzr2 _ _ ?_; try clear zzr2 Kzzr2)
    | (with_reducible refine zzr1 _ _ ?_; try clear zzr1 Kzzr1)
    | (with_reducible refine zzr0 _ _ ?_; try clear zzr0 Kzzr0)
    | (with_reducible refine awp_seq_l (a := .region 19 _ _) [2] ?_; intro Kzzr19 zzr19)
    | (with_reducible refine awp_seq_l (a := .seq (.region 17 _ _) _) [3] ?_; intro Kzzsr17 zzsr17)
    | (with_reducible refine awp_seq_l (a := .region 17 _ _) [1, 3, 40] ?_; intro Kzzr17 zzr17)
    | (with_reducible refine awp_seq_l (a := .region 16 _ _) [1, 3] ?_; intro Kzzr16 zzr16)
    | (with_reducible refine awp_seq_l (a := .seq (.region 14 _ _) _) [1, 3] ?_; intro Kzzsr14 zzsr14)
    | (with_reducible refine awp_seq_l (a := .region 14 _ _) [1, 3, 32] ?_; intro Kzzr14 zzr14)
    | (with_reducible refine awp_seq_l (a := .seq (.region 4 _ _) _) [1, 3] ?_; intro Kzzsr4 zzsr4)
    | (with_reducible refine awp_seq_l (a := .region 6 _ _) [2] ?_; intro Kzzr6 zzr6)
    | (with_reducible refine awp_seq_l (a := .region 13 _ _) [2] ?_; intro Kzzr13 zzr13)
    | (with_reducible refine awp_seq_l (a := .seq (.region 11 _ _) _) [3] ?_; intro Kzzsr11 zzsr11)
    | (with_reducible refine awp_seq_l (a := .region 11 _ _) [1, 3, 22] ?_; intro Kzzr11 zzr11)
    | (with_reducible refine awp_seq_l (a := .region 10 _ _) [1, 3] ?_; intro Kzzr10 zzr10)
    | (with_reducible refine awp_seq_l (a := .seq (.region 8 _ _) _) [1, 3] ?_; intro Kzzsr8 zzsr8)
    | (with_reducible refine awp_seq_l (a := .region 8 _ _) [1, 3, 15] ?_; intro Kzzr8 zzr8)
    | (with_reducible refine awp_seq_l (a := .region 7 _ _) [1, 3, 12] ?_; intro Kzzr7 zzr7)
    | (with_reducible refine awp_seq_l (a := .region 5 _ _) [1, 3, 7, 8] ?_; intro Kzzr5 zzr5)
    | (with_reducible refine awp_seq_l (a := .region 4 _ _) [1, 3, 7] ?_; intro Kzzr4 zzr4)
    | (with_reducible refine awp_seq_l (a := .seq (.region 2 _ _) _) [1, 3] ?_; intro Kzzsr2 zzsr2)
    | (with_reducible refine awp_seq_l (a := .region 2 _ _) [1, 3, 5] ?_; intro Kzzr2 zzr2)
    | (with_reducible refine awp_seq_l (a := .region 1 _ _) [1, 3] ?_; intro Kzzr1 zzr1)
    | (with_reducible refine awp_seq_l (a := .region 0 _ _) [1] ?_; intro Kzzr0 zzr0)
    | (with_reducible refine awp_seq_k ?_; intro K hK)
    | (with_reducible refine awp_region_a ?_; intro all hall K hK)
    | (with_reducible refine awp_draw_n ?_ ?_; kernel_rfl; intro all hall K hK)
    | (with_reducible refine Chk_i ?_ ?_)
    | (with_reducible refine keysC_i ?_; kernel_rfl)
    | (with_reducible first | refine awp_block_i ?_ | refine awp_skip_i ?_ | refine awp_ret_i ?_ | refine awp_exit_i ?_ | refine thenP_ret_i ?_ | refine thenP_exit_i ?_ | refine lpP_ret_i ?_ | refine lpP_exit_i ?_ | refine unrP_succ_i ?_ | refine unrP_ret_i ?_ | refine unrP_exit_i ?_ | refine blockP_normal_i ?_ | refine blockP_ret_i ?_)
    | (with_reducible refine blockP_exit_i ?_; simp only [↓reduceIte, Nat.reduceEqDiff])
    | with_reducible refine lpP_normal_i ?_)
  all_goals (try clear zzr0; try clear Kzzr0)
  all_goals (try clear zzr1; try clear Kzzr1)
  all_goals (try clear zzr2; try clear Kzzr2)
  all_goals (try clear zzsr2; try clear Kzzsr2)
  all_goals (try clear zzr4; try clear Kzzr4)
  all_goals (try clear zzr5; try clear Kzzr5)
  all_goals (try clear zzr7; try clear Kzzr7)
  all_goals (try clear zzr8; try clear Kzzr8)
  all_goals (try clear zzsr8; try clear Kzzsr8)
  all_goals (try clear zzr10; try clear Kzzr10)
  all_goals (try clear zzr11; try clear Kzzr11)
  all_goals (try clear zzsr11; try clear Kzzsr11)
  all_goals (try clear zzr13; try clear Kzzr13)
  all_goals (try clear zzr6; try clear Kzzr6)
  all_goals (try clear zzsr4; try clear Kzzsr4)
  all_goals (try clear zzr14; try clear Kzzr14)
  all_goals (try clear zzsr14; try clear Kzzsr14)
  all_goals (try clear zzr16; try clear Kzzr16)
  all_goals (try clear zzr17; try clear Kzzr17)
  all_goals (try clear zzsr17; try clear Kzzsr17)
  all_goals (try clear zzr19; try clear Kzzr19)
  all_goals (try simp only [inR])
  all_goals first
    | omega
    | rfl
    | (rw [hq]; rfl)
    | (unfold nanT; rw [if_neg hq]; rfl)
    | (rw [hl]; rfl)
    | skip
theorem sound_51 : Sound Tryz.prog 51 .body (norm s51) := by
  refine sound_norm (sound_body Tryz.func51 (show Tryz.f51.body = some (code Tryz.f51) from rfl) (by kernel_rfl) tysOk G51_ok (drawOk_ok (by kernel_rfl) tysOk G51_ok) (by kernel_rfl) fun ds p r hs hp => ?_)
  unfold s51 at hs
  split at hs
  · cases hs; exact ⟨Nat.le_of_ble_eq_true (by kernel_rfl), wk51 _ _ _ _ _ hp⟩
  · cases hs
end Go.Proofs.AMT
set_option maxRecDepth 20000
namespace Go.Proofs.AMT
open Go.AM Go.AM.LN
attribute [local congr] bindO_congr bindS_congr bindG_congr awpOps_congr aOne_congr awp_congr aCond_congr awpD_congr dOne_congr keysB_congr nOne_congr thenP_congr blockP_congr Chk_congr Brk_congr
noncomputable def s52 : CSpec := fun ds => match ds with
  | [.v (.string s)] => some (True, .one (.v (.string (bs (Go.Lib.trimLeftB s.data.toList 48)))))
  | _ => none
theorem s52_eq (s : ByteArray) : norm s52 [.v (.string s)] = some (True, .one (.v (.string (bs (Go.Lib.trimLeftB s.data.toList 48))))) := rfl
noncomputable def G52 : Gam := [(73, .body, norm sBare)]
theorem G52_ok : GamOk Tryz.prog G52 := gamOk_cons sound_bare gamOk_nil
theorem k52_73 : lk G52 73 = some (.body, norm sBare) := rfl
set_option maxHeartbeats 20000000 in
theorem wk52 (s : ByteArray) (hp : True) : awp ty G52 (code Tryz.f52) (retP ty Tryz.f52.results.toList (.one (.v (.string (bs (Go.Lib.trimLeftB s.data.toList 48)))))) (entry 0 [.v (.string s)]) [] := by
  unfold code
  simp only [Tryz.f52, Option.getD_some]
  all_goals repeat' (first
    | ((first
       | (with_reducible refine ops_k ?_; intro X hX)
       | (with_reducible refine opsN_k ?_; intro X hX)
       | (with_reducible show awp _ _ _ _ (keepL _ _) _)
       | with_reducible refine awp_cond_k ?_
       | (with_reducible refine Brk_i ?_ ?_ <;> intro hb <;> (try simp only [hb]) <;> have hq := hb <;> try simp only [decide_eq_true_eq, decide_eq_false_iff_not, gt_iff_lt, ge_iff_le, Int.not_lt, Int.not_le, beq_iff_eq, beq_eq_false_iff_ne, Bool.not_eq_true', Bool.not_eq_false', Bool.and_eq_true, Bool.or_eq_true, Bool.and_eq_false_imp, Bool.or_eq_false_iff, ne_eq, Classical.not_not] at hq)
       | with_reducible refine retP_ret_i ?_
       | with_reducible refine retP_normal_i ?_
       | (with_reducible (show bindG _ _ _ _ _); simp only [hall])) <;> try simp only [Go.AM.S1, Go.AM.S2, Go.AM.S3, Go.AM.S4, Go.AM.S5, Go.AM.S6, Go.AM.S7, Go.AM.S8, Go.AM.S9, Nat.reduceAdd, Nat.reduceMul, Nat.reduceSub, ↓reduceIte, Nat.reduceEqDiff, Nat.reduceLT, Nat.reduceLeDiff, reduceCtorEq, Int.reduceBEq, Int.reduceBNe, Nat.reduceBEq, Int.reduceEq, Int.reduceToNat, Int.reduceLE, Int.reduceLT, Nat.reduceDiv, Int.reduceAdd, Int.reduceSub, Int.reduceMul, Int.reduceNeg, Int.reduceGT, Int.reduceGE, Nat.reduceMod, k52_73, sBare_eq, ty_9])
    | (with_reducible refine hX _ _ ?_; clear hX X)
    | (with_reducible refine ops_nil_i ?_; try clear hall all)
    | (with_reducible refine opsN_nil_i ?_; try clear hall all)
    | (with_reducible refine hK _ _ ?_; clear hK K)
    | with_reducible refine thenP_normal_i ?_
    | (with_reducible refine zzr1 _ _ ?_; try clear zzr1 Kzzr1)
    | (with_reducible refine zzr0 _ _ ?_; try clear zzr0 Kzzr0)
    | (with_reducible refine awp_seq_l (a := .region 1 _ _) [2] ?_; intro Kzzr1 zzr1)
    | (with_reducible refine awp_seq_l (a := .region 0 _ _) [0] ?_; intro Kzzr0 zzr0)
    | (with_reducible refine awp_seq_k ?_; intro K hK)
    | (with_reducible refine awp_region_a ?_; intro all hall K hK)
    | (with_reducible refine awp_draw_n ?_ ?_; kernel_rfl; intro all hall K hK)
    | (with_reducible refine Chk_i ?_ ?_)
    | (with_reducible refine keysC_i ?_; kernel_rfl)
    | (with_reducible first | refine awp_block_i ?_ | refine awp_skip_i ?_ | refine awp_ret_i ?_ | refine awp_exit_i ?_ | refine thenP_ret_i ?_ | refine thenP_exit_i ?_ | refine lpP_ret_i ?_ | refine lpP_exit_i ?_ | refine unrP_succ_i ?_ | refine unrP_ret_i ?_ | refine unrP_exit_i ?_ | refine blockP_normal_i ?_ | refine blockP_ret_i ?_)
    | (with_reducible refine blockP_exit_i ?_; simp only [↓reduceIte, Nat.reduceEqDiff])
    | with_reducible refine lpP_normal_i ?_)
  all_goals (try clear zzr0; try clear Kzzr0)
  all_goals (try clear zzr1; try clear Kzzr1)
  all_goals (try simp only [inR])
  all_goals first
    | omega
    | skip
theorem sound_52 : Sound Tryz.prog 52 .body (norm s52) := by
  refine sound_norm (sound_body Tryz.func52 (show Tryz.f52.body = some (code Tryz.f52) from rfl) (by kernel_rfl) tysOk G52_ok (drawOk_ok (by kernel_rfl) tysOk G52_ok) (by kernel_rfl) fun ds p r hs hp => ?_)
  unfold s52 at hs
  split at hs
  · cases hs; exact ⟨Nat.le_of_ble_eq_true (by kernel_rfl), wk52 _ hp⟩
  · cases hs
end Go.Proofs.AMT
set_option maxRecDepth 20000
namespace Go.Proofs.AMT
open Go.AM Go.AM.LN
attribute [local congr] bindO_congr bindS_congr bindG_congr awpOps_congr aOne_congr awp_congr aCond_congr awpD_congr dOne_congr keysB_congr nOne_congr thenP_congr blockP_congr Chk_congr Brk_congr
noncomputable def s25 : CSpec := fun ds => match ds with
  | [.v (.agg ⟨[.int .i64 cl, .bool sg, .bool si, .int .i64 ex, .int .u64 c0, .int .u64 c1, .int .u64 c2, .int .u64 c3]⟩), .v (.string s)] => some ((cl = 2 ∨ cl = 3) ∧ s.size ≤ 9000, .one (.v (.string (bs (nanT cl sg si (Go.Lib.trimLeftB s.data.toList 48))))))
  | _ => none
theorem s25_eq (cl : Int) (sg : Bool) (si : Bool) (ex : Int) (c0 : Int) (c1 : Int) (c2 : Int) (c3 : Int) (s : ByteArray) : norm s25 [.v (.agg #[.int .i64 cl, .bool sg, .bool si, .int .i64 ex, .int .u64 c0, .int .u64 c1, .int .u64 c2, .int .u64 c3]), .v (.string s)] = some ((cl = 2 ∨ cl = 3) ∧ s.size ≤ 9000, .one (.v (.string (bs (nanT cl sg si (Go.Lib.trimLeftB s.data.toList 48)))))) := rfl
noncomputable def G25 : Gam := [(51, .body, norm s51), (52, .body, norm s52)]
theorem G25_ok : GamOk Tryz.prog G25 := gamOk_cons sound_51 (gamOk_cons sound_52 gamOk_nil)
theorem k25_51 : lk G25 51 = some (.body, norm s51) := rfl
theorem k25_52 : lk G25 52 = some (.body, norm s52) := rfl
set_option maxHeartbeats 20000000 in
theorem wk25 (cl : Int) (sg : Bool) (si : Bool) (ex : Int) (c0 : Int) (c1 : Int) (c2 : Int) (c3 : Int) (s : ByteArray) (hp : (cl = 2 ∨ cl = 3) ∧ s.size ≤ 9000) : awp ty G25 (code Tryz.f25) (retP ty Tryz.f25.results.toList (.one (.v (.string (bs (nanT cl sg si (Go.Lib.trimLeftB s.data.toList 48))))))) (entry 0 [.v (.agg #[.int .i64 cl, .bool sg, .bool si, .int .i64 ex, .int .u64 c0, .int .u64 c1, .int .u64 c2, .int .u64 c3]), .v (.string s)]) [] := by
  unfold code
  simp only [Tryz.f25, Option.getD_some]
  have hd := trimLeftB_len s
  all_goals repeat' (first
    | ((first
       | (with_reducible refine ops_k ?_; intro X hX)
       | (with_reducible refine opsN_k ?_; intro X hX)
       | (with_reducible show awp _ _ _ _ (keepL _ _) _)
       | with_reducible refine awp_cond_k ?_
       | (with_reducible refine Brk_i ?_ ?_ <;> intro hb <;> (try simp only [hb]) <;> have hq := hb <;> try simp only [decide_eq_true_eq, decide_eq_false_iff_not, gt_iff_lt, ge_iff_le, Int.not_lt, Int.not_le, beq_iff_eq, beq_eq_false_iff_ne, Bool.not_eq_true', Bool.not_eq_false', Bool.and_eq_true, Bool.or_eq_true, Bool.and_eq_false_imp, Bool.or_eq_false_iff, ne_eq, Classical.not_not] at hq)
       | with_reducible refine retP_ret_i ?_
       | with_reducible refine retP_normal_i ?_
       | (with_reducible (show bindG _ _ _ _ _); simp only [hall])) <;> try simp only [Go.AM.S1, Go.AM.S2, Go.AM.S3, Go.AM.S4, Go.AM.S5, Go.AM.S6, Go.AM.S7, Go.AM.S8, Go.AM.S9, Nat.reduceAdd, Nat.reduceMul, Nat.reduceSub, ↓reduceIte, Nat.reduceEqDiff, Nat.reduceLT, Nat.reduceLeDiff, reduceCtorEq, Int.reduceBEq, Int.reduceBNe, Nat.reduceBEq, Int.reduceEq, Int.reduceToNat, Int.reduceLE, Int.reduceLT, Nat.reduceDiv, Int.reduceAdd, Int.reduceSub, Int.reduceMul, Int.reduceNeg, Int.reduceGT, Int.reduceGE, Nat.reduceMod, k25_51, s51_eq, k25_52, s52_eq, ty_3, ty_4, ty_9, ty_22, ty_24, ty_31, ty_80, bs_list])
    | (with_reducible refine hX _ _ ?_; clear hX X)
    | (with_reducible refine ops_nil_i ?_; try clear hall all)
    | (with_reducible refine opsN_nil_i ?_; try clear hall all)
    | (with_reducible refine hK _ _ ?_; clear hK K)
    | with_reducible refine thenP_normal_i ?_
    | (with_reducible refine zzr1 _ _ ?_; try clear zzr1 Kzzr1)
    | (with_reducible refine zzr0 _ _ ?_; try clear zzr0 Kzzr0)
    | (with_reducible refine awp_seq_l (a := .region 1 _ _) [4] ?_; intro Kzzr1 zzr1)
    | (with_reducible refine awp_seq_l (a := .region 0 _ _) [1, 2] ?_; intro Kzzr0 zzr0)
    | (with_reducible refine awp_seq_k ?_; intro K hK)
    | (with_reducible refine awp_region_a ?_; intro all hall K hK)
    | (with_reducible refine awp_draw_n ?_ ?_; kernel_rfl; intro all hall K hK)
    | (with_reducible refine Chk_i ?_ ?_)
    | (with_reducible refine keysC_i ?_; kernel_rfl)
    | (with_reducible first | refine awp_block_i ?_ | refine awp_skip_i ?_ | refine awp_ret_i ?_ | refine awp_exit_i ?_ | refine thenP_ret_i ?_ | refine thenP_exit_i ?_ | refine lpP_ret_i ?_ | refine lpP_exit_i ?_ | refine unrP_succ_i ?_ | refine unrP_ret_i ?_ | refine unrP_exit_i ?_ | refine blockP_normal_i ?_ | refine blockP_ret_i ?_)
    | (with_reducible refine blockP_exit_i ?_; simp only [↓reduceIte, Nat.reduceEqDiff])
    | with_reducible refine lpP_normal_i ?_)
  all_goals (try clear zzr0; try clear Kzzr0)
  all_goals (try clear zzr1; try clear Kzzr1)
  all_goals (try simp only [inR])
  all_goals first
    | omega
    | (rw [bs_size]; omega)
    | exact ⟨hp.1, by rw [bs_size]; omega⟩
    | skip
theorem sound_25 : Sound Tryz.prog 25 .body (norm s25) := by
  refine sound_norm (sound_body Tryz.func25 (show Tryz.f25.body = some (code Tryz.f25) from rfl) (by kernel_rfl) tysOk G25_ok (drawOk_ok (by kernel_rfl) tysOk G25_ok) (by kernel_rfl) fun ds p r hs hp => ?_)
  unfold s25 at hs
  split at hs
  · cases hs; exact ⟨Nat.le_of_ble_eq_true (by kernel_rfl), wk25 _ _ _ _ _ _ _ _ _ hp⟩
  · cases hs
end Go.Proofs.AMT
