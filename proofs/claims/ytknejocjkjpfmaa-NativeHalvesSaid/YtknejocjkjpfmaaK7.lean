/- Part 7 of the proof: own text (LH, LI, LJ, FbinconvSpecial, Fnatsize, FnatTrim, FnatOf, FnatLen, FnatShl, Froundscaled, FnatCmp, FbinaryLargest, FroundInfinite, Froundoverflow). -/
import Derived.Laws.FloatArith
import Derived.KernelRfl
import Derived.Test.YtknejocjkjpfmaaK0
import Derived.Test.YtknejocjkjpfmaaK1
import Derived.Test.YtknejocjkjpfmaaK2
import Derived.Test.YtknejocjkjpfmaaK3
import Derived.Test.YtknejocjkjpfmaaK4
import Derived.Test.YtknejocjkjpfmaaK5
import Derived.Test.YtknejocjkjpfmaaK6
set_option linter.all false
set_option maxRecDepth 20000
namespace Go.AM.LN
open Go
/-! The model's own floats. -/
theorem sw64 : Ieee.double.signWeight = 9223372036854775808 := rfl
theorem bn64 : Ieee.double.binade = 4503599627370496 := rfl
theorem ir64 : Ieee.double.infRung = 9218868437227405312 := rfl
theorem lp64 : Ieee.double.leastPlace = -1074 := rfl
theorem fb64 : Ieee.double.fractionBits = 52 := rfl
theorem sw32 : Ieee.single.signWeight = 2147483648 := rfl
theorem bn32 : Ieee.single.binade = 8388608 := rfl
theorem ir32 : Ieee.single.infRung = 2139095040 := rfl
theorem lp32 : Ieee.single.leastPlace = -149 := rfl
/-- The rung of U * 2 ^ q. -/
def rung (U : Nat) (q : Int) : Nat := (q + blen U + 1021).toNat * 4503599627370496 + U * 2 ^ (53 - blen U)
theorem cut_exact {neg : Bool} {n k : Nat} (h : n % 2 ^ k = 0) : Ieee.Toward.even.cut neg n k = n / 2 ^ k := by
  unfold Ieee.Toward.cut
  by_cases hk : k ≤ n.log2 + 2
  · rw [Nat.min_eq_left hk, Nat.one_shiftLeft]
    dsimp only
    rw [h]
    have := Nat.two_pow_pos k
    have h2 : ¬ (2 ^ k < 2 * 0) := by omega
    have h3 : ¬ (2 ^ k = 2 * 0) := by omega
    simp [h2, h3]
  · have h0 : n = 0 := by
      apply Classical.byContradiction
      intro hn
      obtain ⟨m, hm⟩ := Nat.dvd_of_mod_eq_zero h
      have h1 : n < 2 ^ (n.log2 + 1) := Nat.lt_log2_self
      have h2 : 2 ^ (n.log2 + 1) ≤ 2 ^ k := Nat.pow_le_pow_right (by omega) (by omega)
      have h3 : 1 ≤ m := Nat.pos_of_ne_zero fun h4 => by subst h4; omega
      have h4 : 2 ^ k * 1 ≤ 2 ^ k * m := Nat.mul_le_mul_left _ h3
      omega
    subst h0
    simp [Nat.one_shiftLeft]
set_option maxHeartbeats 1000000 in
theorem near {S : Bool} {U k : Nat} {p : Int} (hU : 0 < U) (hb : blen U ≤ 53) (h3 : -1021 ≤ p + k + blen U) (h4 : p + k + blen U ≤ 1023) : Ieee.double.nearest S (U * 2 ^ k) p = Ieee.double.word S (rung U (p + k)) := by
  have hV : 0 < U * 2 ^ k := Nat.mul_pos hU (Nat.two_pow_pos k)
  have hlog : blen (U * 2 ^ k) = (U * 2 ^ k).log2 + 1 := if_neg (by omega)
  rw [blen_mul (by omega)] at hlog
  have hb1 : 1 ≤ blen U := by have := @blen_zero U; omega
  unfold Ieee.Format.nearest
  rw [if_neg (by omega)]
  have hlast : max (p + ((U * 2 ^ k).log2 : Int) - (Ieee.double.fractionBits : Int)) Ieee.double.leastPlace = p + k + blen U - 53 := by
    rw [lp64, fb64]; omega
  simp only [hlast]
  simp only [lp64, bn64, ir64]
  have hX : blen (U * 2 ^ (53 - blen U)) = 53 := by rw [blen_mul (by omega)]; omega
  have hX2 : U * 2 ^ (53 - blen U) < 2 ^ 53 := blen_lt.1 (by omega)
  have e : Ieee.Toward.even.cut S ((U * 2 ^ k) <<< (p - (p + k + blen U - 53)).toNat) (p + k + blen U - 53 - p).toNat = U * 2 ^ (53 - blen U) := by
    rw [Nat.shiftLeft_eq]
    by_cases hk : k + blen U ≤ 53
    · rw [show (p + k + blen U - 53 - p).toNat = 0 by omega, cut_exact (by rw [Nat.pow_zero, Nat.mod_one]), Nat.pow_zero, Nat.div_one, Nat.mul_assoc, ← Nat.pow_add]
      congr 2; omega
    · have hd : (p + k + blen U - 53 - p).toNat = k - (53 - blen U) := by omega
      have he : U * 2 ^ k = U * 2 ^ (53 - blen U) * 2 ^ (k - (53 - blen U)) := by rw [Nat.mul_assoc, ← Nat.pow_add]; congr 2; omega
      rw [show (p - (p + k + blen U - 53)).toNat = 0 by omega, Nat.pow_zero, Nat.mul_one, hd, he, cut_exact (Nat.mul_mod_left _ _), Nat.mul_div_cancel _ (Nat.two_pow_pos _)]
  rw [e]
  unfold rung
  have e2 : (p + k + blen U - 53 - -1074).toNat = (p + k + blen U + 1021).toNat := by omega
  rw [e2]
  have h5 : (p + (k : Int) + blen U + 1021).toNat ≤ 2044 := by omega
  have p53 : (2 : Nat) ^ 53 = 9007199254740992 := rfl
  rw [p53] at hX2
  generalize (p + (k : Int) + blen U + 1021).toNat = r at *
  generalize U * 2 ^ (53 - blen U) = X at *
  rw [Nat.min_eq_left (by omega)]
theorem rung_split {U : Nat} {q : Int} (hU : 0 < U) (hb : blen U ≤ 53) (h3 : -1021 ≤ q + blen U) (h4 : q + blen U ≤ 1023) : rung U q / 4503599627370496 = (q + blen U + 1022).toNat ∧ rung U q % 4503599627370496 = U * 2 ^ (53 - blen U) - 4503599627370496 ∧ 4503599627370496 ≤ U * 2 ^ (53 - blen U) ∧ U * 2 ^ (53 - blen U) < 9007199254740992 ∧ rung U q < 9218868437227405312 := by
  have hb1 : 1 ≤ blen U := by have := @blen_zero U; omega
  have hX : blen (U * 2 ^ (53 - blen U)) = 53 := by rw [blen_mul (by omega)]; omega
  have hX2 : U * 2 ^ (53 - blen U) < 2 ^ 53 := blen_lt.1 (by omega)
  have hX1 : 2 ^ 52 ≤ U * 2 ^ (53 - blen U) := blen_le.1 (by omega)
  have p53 : (2 : Nat) ^ 53 = 9007199254740992 := rfl
  have p52 : (2 : Nat) ^ 52 = 4503599627370496 := rfl
  unfold rung
  rw [p53] at hX2
  rw [p52] at hX1
  generalize U * 2 ^ (53 - blen U) = X at *
  omega
/-- What a word means that was made of a number that fits. -/
theorem read_rung {U : Nat} {q : Int} (hU : 0 < U) (hb : blen U ≤ 53) (h3 : -1021 ≤ q + blen U) (h4 : q + blen U ≤ 1023) : Ieee.double.read (Ieee.double.word false (rung U q)) = .number false (U * 2 ^ (53 - blen U)) (q + blen U - 53) := by
  obtain ⟨r1, r2, r3, r4, r5⟩ := rung_split hU hb h3 h4
  have hw : Ieee.double.word false (rung U q) = rung U q := rfl
  rw [hw]
  unfold Ieee.Format.read
  have e1 : rung U q % 9223372036854775808 = rung U q := Nat.mod_eq_of_lt (by omega)
  have e2 : rung U q / 9223372036854775808 = 0 := Nat.div_eq_of_lt (by omega)
  have n1 : ¬ rung U q < 4503599627370496 := by omega
  simp only [sw64, bn64, ir64, lp64, e1, e2, r1, r2, if_neg n1, if_pos r5]
  have a1 : 4503599627370496 + (U * 2 ^ (53 - blen U) - 4503599627370496) = U * 2 ^ (53 - blen U) := by omega
  have a2 : (-1074 : Int) + (((q + (blen U : Int) + 1022).toNat - 1 : Nat) : Int) = q + blen U - 53 := by omega
  rw [a1, a2]
  rfl
/-! float32 -/
def sm (z : Nat) : Nat := if z < 8388608 then z else 8388608 + z % 8388608
def se (z : Nat) : Int := -149 + ((z / 8388608 - 1 : Nat) : Int)
theorem sm_b {z : Nat} (hz : z < 2139095040) : sm z < 16777216 ∧ -149 ≤ se z ∧ se z ≤ 104 := by unfold sm se; split <;> omega
theorem read32 {z : Nat} (hz : z < 2139095040) : Ieee.single.read z = .number false (sm z) (se z) := by
  unfold Ieee.Format.read sm se
  have e1 : z % 2147483648 = z := Nat.mod_eq_of_lt (by omega)
  have e2 : z / 2147483648 = 0 := Nat.div_eq_of_lt (by omega)
  simp only [sw32, bn32, ir32, lp32, e1, e2]
  by_cases h : z < 8388608
  · have a2 : (-149 : Int) = -149 + ((z / 8388608 - 1 : Nat) : Int) := by omega
    simp only [if_pos h]
    rw [← a2]
    rfl
  · simp only [if_neg h, if_pos hz]
    rfl
theorem read32_nan {z : Nat} (h1 : 2139095040 < z) (h2 : z < 2147483648) : Ieee.single.read z = .nan false (z - 2139095040) := by
  unfold Ieee.Format.read
  have e1 : z % 2147483648 = z := Nat.mod_eq_of_lt (by omega)
  have e2 : z / 2147483648 = 0 := Nat.div_eq_of_lt (by omega)
  have n1 : ¬ z < 8388608 := by omega
  have n2 : ¬ z < 2139095040 := by omega
  have n3 : ¬ z = 2139095040 := by omega
  simp only [sw32, bn32, ir32, lp32, e1, e2, if_neg n1, if_neg n2, if_neg n3]
  rfl
theorem order_self {f : Ieee.Format} {z : Nat} (h : (f.read z).isNaN = false) : f.order z z = some .eq := by
  unfold Ieee.Format.order
  generalize f.read z = d at *
  cases d with
  | number s m e => simp [Ieee.Datum.order]
  | infinity s => simp [Ieee.Datum.order]
  | nan s t => cases h
theorem order_nan {f : Ieee.Format} {z w : Nat} {s : Bool} {t : Nat} (h : f.read z = .nan s t) : f.order z w = none := by
  unfold Ieee.Format.order
  rw [h]; rfl
theorem rung_mul {U k : Nat} {q : Int} (hU : 0 < U) (hb : blen (U * 2 ^ k) ≤ 53) : rung (U * 2 ^ k) q = rung U (q + k) := by
  have h := blen_mul (n := U) (by omega) k
  unfold rung
  rw [h] at hb ⊢
  have e1 : q + ((blen U + k : Nat) : Int) + 1021 = q + (k : Int) + (blen U : Int) + 1021 := by omega
  rw [e1, Nat.mul_assoc, ← Nat.pow_add, show k + (53 - (blen U + k)) = 53 - blen U by omega]
theorem word_f (r : Nat) : Ieee.double.word false r = r := rfl
/-- The word of U * 2 ^ q, a nought too. -/
def wrd (U : Nat) (q : Int) : Nat := if U = 0 then 0 else rung U q
theorem wrd_pos {U : Nat} {q : Int} (h : U ≠ 0) : wrd U q = rung U q := if_neg h
theorem add_rung {U V : Nat} {q : Int} (hU : 0 < U) (hV : 0 < V) (hb : blen (U + V) ≤ 53) (h3 : -1000 ≤ q) (h4 : q ≤ 900) : Ieee.double.add (rung U q) (rung V q) = some (rung (U + V) q) := by
  have bU := blen_mono (Nat.le_add_right U V)
  have bV := blen_mono (Nat.le_add_left V U)
  have r1 := read_rung (q := q) hU (by omega) (by omega) (by omega)
  have r2 := read_rung (q := q) hV (by omega) (by omega) (by omega)
  rw [word_f] at r1 r2
  unfold Ieee.Format.add
  rw [r1, r2]
  have e0 : q - min (q + (blen U : Int) - 53) (q + (blen V : Int) - 53) = ((53 - min (blen U) (blen V) : Nat) : Int) := by omega
  obtain ⟨k, hk⟩ : ∃ k, 53 - min (blen U) (blen V) = k := ⟨_, rfl⟩
  rw [hk] at e0
  have e1 : (U * 2 ^ (53 - blen U)) <<< (q + (blen U : Int) - 53 - min (q + (blen U : Int) - 53) (q + (blen V : Int) - 53)).toNat = U * 2 ^ k := by
    rw [Nat.shiftLeft_eq, Nat.mul_assoc, ← Nat.pow_add]; congr 2; omega
  have e2 : (V * 2 ^ (53 - blen V)) <<< (q + (blen V : Int) - 53 - min (q + (blen U : Int) - 53) (q + (blen V : Int) - 53)).toNat = V * 2 ^ k := by
    rw [Nat.shiftLeft_eq, Nat.mul_assoc, ← Nat.pow_add]; congr 2; omega
  unfold Ieee.Datum.sum
  simp only [Ieee.signed, e1, e2, Bool.false_eq_true, if_false, Option.map_some]
  have hp : 0 < (U + V) * 2 ^ k := Nat.mul_pos (by omega) (Nat.two_pow_pos k)
  have e3 : ((U * 2 ^ k : Nat) : Int) + ((V * 2 ^ k : Nat) : Int) = (((U + V) * 2 ^ k : Nat) : Int) := by rw [Nat.add_mul]; omega
  rw [e3, Int.natAbs_natCast]
  have e4 : (if (((U + V) * 2 ^ k : Nat) : Int) = 0 then (false && false) else decide ((((U + V) * 2 ^ k : Nat) : Int) < 0)) = false := by
    rw [if_neg (by omega), decide_eq_false (by omega)]
  rw [e4]
  unfold Ieee.Format.write
  simp only
  rw [near (by omega) hb (by omega) (by omega), word_f]
  congr 2
  omega
theorem read0 : Ieee.double.read 0 = .number false 0 (-1074) := rfl
theorem add_zero {V : Nat} {q : Int} (hV : 0 < V) (hb : blen V ≤ 53) (h3 : -1000 ≤ q) (h4 : q ≤ 900) : Ieee.double.add 0 (rung V q) = some (rung V q) := by
  have r2 := read_rung (q := q) hV (by omega) (by omega) (by omega)
  rw [word_f] at r2
  unfold Ieee.Format.add
  rw [r2, read0]
  obtain ⟨k, hk⟩ : ∃ k : Nat, (q + 1074).toNat = k := ⟨_, rfl⟩
  have e1 : (0 : Nat) <<< (-1074 - min (-1074) (q + (blen V : Int) - 53)).toNat = 0 := by rw [Nat.shiftLeft_eq, Nat.zero_mul]
  have e2 : (V * 2 ^ (53 - blen V)) <<< (q + (blen V : Int) - 53 - min (-1074) (q + (blen V : Int) - 53)).toNat = V * 2 ^ k := by
    rw [Nat.shiftLeft_eq, Nat.mul_assoc, ← Nat.pow_add]; congr 2; omega
  have e5 : min (-1074) (q + (blen V : Int) - 53) = -1074 := by omega
  unfold Ieee.Datum.sum
  simp only [Ieee.signed, e1, e2, Bool.false_eq_true, if_false, Option.map_some]
  have hp : 0 < V * 2 ^ k := Nat.mul_pos (by omega) (Nat.two_pow_pos k)
  have e3 : ((0 : Nat) : Int) + ((V * 2 ^ k : Nat) : Int) = ((V * 2 ^ k : Nat) : Int) := by omega
  rw [e3, Int.natAbs_natCast]
  have e4 : (if ((V * 2 ^ k : Nat) : Int) = 0 then (false && false) else decide (((V * 2 ^ k : Nat) : Int) < 0)) = false := by
    rw [if_neg (by omega), decide_eq_false (by omega)]
  rw [e4]
  unfold Ieee.Format.write
  simp only
  rw [near (by omega) hb (by omega) (by omega), word_f, e5]
  congr 2
  omega
theorem read2 : Ieee.double.read 4611686018427387904 = .number false 4503599627370496 (-51) := by decide
set_option maxHeartbeats 1000000 in
theorem half_rung {U : Nat} {q : Int} (hU : 0 < U) (hb : blen U ≤ 53) (h3 : -1000 ≤ q) (h4 : q ≤ 900) : Ieee.double.div (rung U q) 4611686018427387904 = some (rung U (q - 1)) := by
  have r1 := read_rung (q := q) hU (by omega) (by omega) (by omega)
  rw [word_f] at r1
  have hX : blen (U * 2 ^ (53 - blen U)) = 53 := by have := blen_mul (n := U) (by omega) (53 - blen U); omega
  have hX0 : 0 < U * 2 ^ (53 - blen U) := Nat.mul_pos hU (Nat.two_pow_pos _)
  have hl : (U * 2 ^ (53 - blen U)).log2 = 52 := by
    have : blen (U * 2 ^ (53 - blen U)) = (U * 2 ^ (53 - blen U)).log2 + 1 := if_neg (by omega)
    omega
  have hl2 : (4503599627370496 : Nat).log2 = 52 := by decide
  unfold Ieee.Format.div
  rw [r1, read2]
  unfold Ieee.Datum.quotient
  simp only [hl, hl2, fb64]
  rw [if_neg (by omega)]
  have e1 : (U * 2 ^ (53 - blen U)) <<< (52 + 2 + 52 - 52) = U * 2 ^ (53 - blen U) * 4 * 4503599627370496 := by
    rw [Nat.shiftLeft_eq, Nat.mul_assoc (U * 2 ^ (53 - blen U))]
  rw [e1, Nat.mul_div_cancel _ (by omega), Nat.mul_mod_left]
  have e2 : 2 * (U * 2 ^ (53 - blen U) * 4) + ((0 : Nat) != 0).toNat = U * 2 ^ (53 - blen U + 3) := by
    have h8 : U * 2 ^ (53 - blen U + 3) = U * 2 ^ (53 - blen U) * 8 := by rw [Nat.pow_add, ← Nat.mul_assoc]
    have h0 : ((0 : Nat) != 0).toNat = 0 := rfl
    rw [h8, h0]
    generalize U * 2 ^ (53 - blen U) = X
    omega
  rw [e2, Option.map_some]
  unfold Ieee.Format.write
  simp only
  rw [near hU hb (by omega) (by omega)]
  rw [show (false ^^ false) = false from rfl, word_f]
  have e9 : q + (blen U : Int) - 53 - -51 - ((52 + 2 + 52 - 52 : Nat) : Int) - 1 + ((53 - blen U + 3 : Nat) : Int) = q - 1 := by omega
  rw [e9]
/-- The midpoint's pattern. -/
def mid (z : Nat) : Nat := rung (2 * sm z + 1) (se z - 1)
theorem sm_next {z : Nat} (hz : z + 1 < 2139095040) : (sm (z + 1) = sm z + 1 ∧ se (z + 1) = se z) ∨ (sm z + 1 = sm (z + 1) * 2 ^ 1 ∧ se (z + 1) = se z + (1 : Nat)) := by
  unfold sm se
  split <;> split <;> omega
theorem wrd_next {z : Nat} (hz : z + 1 < 2139095040) : wrd (sm (z + 1)) (se (z + 1)) = rung (sm z + 1) (se z) := by
  have hb := sm_b (z := z) (by omega)
  rcases sm_next hz with ⟨h1, h2⟩ | ⟨h1, h2⟩
  · rw [h1, h2, wrd_pos (by omega)]
  · have hbl : blen (sm z + 1) ≤ 53 := blen_lt.2 (Nat.lt_of_lt_of_le (show sm z + 1 < 16777217 by omega) (by decide))
    rw [wrd_pos (by omega), h1, rung_mul (by omega) (by rw [← h1]; exact hbl), h2]
theorem blen_le53 {U : Nat} (h : U < 9007199254740992) : blen U ≤ 53 := blen_lt.2 h
/-- Widening, as the model has it. -/
theorem widen {z : Nat} (hz : z < 2139095040) : floatToFloatBits .f32 z .f64 = some (wrd (sm z) (se z)) := by
  by_cases h0 : sm z = 0
  · have hz0 : z = 0 := by unfold sm at h0; split at h0 <;> omega
    subst hz0
    show _ = _
    kernel_rfl
  have hb := sm_b hz
  have hr := read32 hz
  have key : ∀ W, Ieee.double.nearest false (sm z) (se z) = W → (Ieee.double.read W).isInfinity = false → (if (Ieee.double.read (Ieee.double.nearest false (sm z) (se z))).isInfinity = true then none else some (Ieee.double.nearest false (sm z) (se z))) = some W := by
    intro W h1 h2
    subst h1
    rw [h2]; rfl
  unfold floatToFloatBits
  rw [if_neg (by decide)]
  unfold FloatKind.decode FloatKind.encode
  simp only [FloatKind.format]
  rw [hr]
  · have hbl : blen (sm z) ≤ 53 := blen_le53 (by omega)
    have hn := near (S := false) (U := sm z) (k := 0) (p := se z) (by omega) hbl (by omega) (by omega)
    rw [Nat.pow_zero, Nat.mul_one, word_f, show se z + ((0 : Nat) : Int) = se z by omega] at hn
    have hrr := read_rung (q := se z) (show 0 < sm z by omega) hbl (by omega) (by omega)
    rw [word_f] at hrr
    rw [wrd_pos h0]
    exact key _ hn (by rw [hrr]; rfl)
theorem mid_ok {z : Nat} (hz : z + 1 < 2139095040) : ∃ S, Ieee.double.add (wrd (sm z) (se z)) (wrd (sm (z + 1)) (se (z + 1))) = some S ∧ Ieee.double.div S 4611686018427387904 = some (mid z) := by
  have hb := sm_b (z := z) (by omega)
  rw [wrd_next hz]
  unfold mid
  refine ⟨rung (2 * sm z + 1) (se z), ?_, half_rung (by omega) (blen_le53 (by omega)) (by omega) (by omega)⟩
  by_cases h0 : sm z = 0
  · rw [h0]
    exact add_zero (by omega) (blen_le53 (by omega)) (by omega) (by omega)
  · rw [wrd_pos h0, add_rung (by omega) (by omega) (blen_le53 (by omega)) (by omega) (by omega)]
    congr 2; omega
theorem max_read : Ieee.double.read 9218868437227405311 = .number false 9007199254740991 971 := by decide
theorem cmp_le {a b : Int} (h : a ≤ b) : (some (compare a b) == some Ordering.gt) = false := by
  have h1 := Int.compare_ne_gt.2 h
  revert h1
  cases compare a b <;> simp
theorem dat_le {A B : Nat} {i : Int} (hA : A ≤ B) (hi : i ≤ 971) : ((Ieee.Datum.number false A i).order (.number false B 971) == some .gt) = false := by
  unfold Ieee.Datum.order
  simp only [Ieee.signed, Bool.false_eq_true, if_false]
  refine cmp_le ?_
  have e1 : (i - min i 971).toNat = 0 := by omega
  rw [e1, Nat.shiftLeft_zero, Nat.shiftLeft_eq]
  have h1 := Nat.two_pow_pos (971 - min i 971).toNat
  exact Int.ofNat_le.2 (Nat.le_trans hA (Nat.le_mul_of_pos_right _ h1))
theorem not_gt {z : Nat} (hz : z < 2139095040) : (Ieee.double.order (wrd (sm z) (se z)) 9218868437227405311 == some .gt) = false := by
  have hb := sm_b hz
  unfold Ieee.Format.order
  rw [max_read]
  by_cases h0 : sm z = 0
  · rw [h0]
    have hw : wrd 0 (se z) = 0 := rfl
    rw [hw, read0]
    exact dat_le (Nat.zero_le _) (by decide)
  · rw [wrd_pos h0]
    have hbl : blen (sm z) ≤ 53 := blen_le53 (by omega)
    have hrr := read_rung (q := se z) (show 0 < sm z by omega) hbl (by omega) (by omega)
    rw [word_f] at hrr
    rw [hrr]
    obtain ⟨r1, r2, r3, r4, r5⟩ := rung_split (q := se z) (show 0 < sm z by omega) hbl (by omega) (by omega)
    exact dat_le (by omega) (by omega)
theorem wrd_lt {z : Nat} (hz : z < 2139095040) : wrd (sm z) (se z) < 9218868437227405312 := by
  have hb := sm_b hz
  by_cases h0 : sm z = 0
  · rw [h0]; exact Nat.lt_of_le_of_lt (Nat.le_refl 0) (by omega)
  · rw [wrd_pos h0]
    have hbl : blen (sm z) ≤ 53 := blen_le53 (by omega)
    exact (rung_split (q := se z) (show 0 < sm z by omega) hbl (by omega) (by omega)).2.2.2.2
end Go.AM.LN
set_option maxRecDepth 20000
namespace Go.AM.LN
open Go
/-! What the program makes of the midpoint. -/
theorem rung_unpack {U : Nat} {q : Int} (hU : 0 < U) (hb : blen U ≤ 53) (h3 : -1000 ≤ q) (h4 : q ≤ 900) :
    okB 4 (rung U q) = true ∧ uC 4 (rung U q) = 1 ∧ uS 4 (rung U q) = false ∧ uX 4 (rung U q) = q + blen U - 53 ∧ uV 4 (rung U q) = U * 2 ^ (53 - blen U) ∧ rung U q < 9218868437227405312 := by
  obtain ⟨r1, r2, r3, r4, r5⟩ := rung_split (q := q) hU hb (by omega) (by omega)
  have f1 : (fp 4 - 1).toNat = 52 := rfl
  have f2 : (fx 4).toNat = 11 := rfl
  have f3 : (fw 4 - 1).toNat = 63 := rfl
  have p52 : (2 : Nat) ^ 52 = 4503599627370496 := rfl
  have p11 : (2 : Nat) ^ 11 = 2048 := rfl
  have p11i : (2 : Int) ^ 11 = 2048 := rfl
  have p63 : (2 : Nat) ^ 63 = 9223372036854775808 := rfl
  have fe4 : fe 4 = 1023 := rfl
  have fp4 : fp 4 = 53 := rfl
  generalize hW : rung U q = W at *
  have hE : uE 4 W = (q + blen U + 1022).toNat := by
    unfold uE
    rw [f1, f2, p52, p11, r1]; omega
  have hF : uF 4 W = U * 2 ^ (53 - blen U) - 4503599627370496 := by
    unfold uF
    rw [f1, p52, r2]
  have hE1 : (uE 4 W : Int) < 2 ^ (fx 4).toNat - 1 := by rw [hE, f2, p11i]; omega
  obtain ⟨u1, u2, u3, u4⟩ := u_num hE1
  refine ⟨?_, u1, ?_, ?_, ?_, r5⟩
  · unfold okB
    have : blen W ≤ 64 := blen_lt.2 (Nat.lt_of_lt_of_le r5 (by decide))
    rw [decide_eq_true (by omega), Bool.true_and, decide_eq_true_eq]
    show (blen W : Int) ≤ 64
    omega
  · unfold uS
    rw [f3, p63, Nat.div_eq_of_lt (by omega)]; rfl
  · rw [u3, hE, fe4, fp4]; omega
  · rw [u4, hE, if_neg (by omega), hF, f1, p52]
    have h1 : 1 * 4503599627370496 % 2 ^ 256 = 1 * 2 ^ 52 := rfl
    rw [h1, or_add (by rw [p52]; omega), p52]
    omega
def ev (z : Nat) : Nat := if z % 2 = 0 then z else z + 1
theorem divS_half {m : Nat} : divS 0 false (2 * m + 1) 2 = (if m % 2 = 1 then m + 1 else m, false) := by
  unfold divS
  have e1 : (2 * m + 1) % 2 = 1 := by omega
  have e2 : (2 * m + 1) / 2 = m := by omega
  rw [e1, e2, if_neg (by omega)]
  have e3 : cmpI 1 (2 - 1) = 0 := rfl
  rw [e3]
  by_cases h : m % 2 = 1
  · have : upS 0 false (m % 2 == 1) 0 = true := by rw [h]; rfl
    rw [if_pos h, if_pos this]
  · have : upS 0 false (m % 2 == 1) 0 = false := by
      have h0 : m % 2 = 0 := by omega
      rw [h0]; rfl
    rw [if_neg h, if_neg (by rw [this]; exact Bool.false_ne_true)]
set_option maxHeartbeats 2000000 in
theorem mid_round {z : Nat} (hz : z + 1 < 2139095040) {C : Nat} {X : Int} (hC : C = uV 4 (mid z)) (hX : X = uX 4 (mid z)) :
    rndV 3 0 false C 1 X = ev z ∧ (rndF 3 0 false C 1 X = 8 ∨ rndF 3 0 false C 1 X = 12) := by
  have hb := sm_b (z := z) (by omega)
  have hU : 0 < 2 * sm z + 1 := by omega
  have hbl : blen (2 * sm z + 1) ≤ 25 := blen_lt.2 (Nat.lt_of_lt_of_le (show 2 * sm z + 1 < 33554432 by omega) (by decide))
  have hbl1 : 1 ≤ blen (2 * sm z + 1) := by have := @blen_zero (2 * sm z + 1); omega
  obtain ⟨k1, k2, k3, k4, k5, k6⟩ := rung_unpack (q := se z - 1) hU (by omega) (by omega) (by omega)
  unfold mid at hC hX
  rw [k5] at hC
  rw [k4] at hX
  have hCb : blen C = 53 := by rw [hC, blen_mul (by omega)]; omega
  have hC52 : 2 ^ 52 ≤ C := blen_le.1 (by omega)
  have hl : lowS C 1 = 52 := by
    have b1 : blen 1 = 1 := rfl
    unfold lowS
    rw [hCb, b1]
    have e1 : (-(((53 : Nat) : Int) - ((1 : Nat) : Int))).toNat = 0 := rfl
    have e2 : (((53 : Nat) : Int) - ((1 : Nat) : Int)).toNat = 52 := rfl
    rw [e1, e2, if_neg (by omega)]
    rfl
  have hrl : rlow C 1 X = se z + blen (2 * sm z + 1) - 2 := by unfold rlow; rw [hl, hX]; omega
  have fp3 : fp 3 = 24 := rfl
  have fe3 : fe 3 = 127 := rfl
  -- either 25 digits, or the least exponent
  have hway : (8388608 ≤ sm z ∧ blen (2 * sm z + 1) = 25) ∨ (sm z < 8388608 ∧ se z = -149) := by
    rcases Nat.lt_or_ge (sm z) 8388608 with h | h
    · right
      refine ⟨h, ?_⟩
      unfold sm at h
      unfold se
      split at h <;> omega
    · left
      exact ⟨h, blen_eq (k := 24) (Nat.le_trans (show 2 ^ 24 ≤ 16777216 by decide) (by omega)) (Nat.lt_of_lt_of_le (show 2 * sm z + 1 < 33554432 by omega) (by decide))⟩
  have hq : rq 3 C 1 X = se z := by
    unfold rq
    rw [hrl, fp3, fe3]
    omega
  have hd : rdiv 3 0 false C 1 X = (if sm z % 2 = 1 then sm z + 1 else sm z, false) := by
    unfold rdiv
    rw [hq]
    have e1 : (X - se z).toNat = 0 := by omega
    have e2 : (-(X - se z)).toNat = 53 - blen (2 * sm z + 1) + 1 := by omega
    rw [e1, e2, Nat.pow_zero, Nat.mul_one, Nat.one_mul, hC, Nat.pow_succ, Nat.mul_comm (2 ^ (53 - blen (2 * sm z + 1))) 2, divS_mul (Nat.two_pow_pos _)]
    exact divS_half
  obtain ⟨c, hc⟩ : ∃ c, (if sm z % 2 = 1 then sm z + 1 else sm z) = c := ⟨_, rfl⟩
  rw [hc] at hd
  have hc' : (sm z % 2 = 1 ∧ c = sm z + 1) ∨ (sm z % 2 = 0 ∧ c = sm z) := by
    by_cases h : sm z % 2 = 1
    · rw [if_pos h] at hc; left; omega
    · rw [if_neg h] at hc; right; omega
  have hx1 : C ≠ 0 := by omega
  -- z by its parts
  have hzz : (z < 8388608 ∧ sm z = z ∧ se z = -149) ∨ (8388608 ≤ z ∧ (z : Int) = (se z + 150) * 8388608 + (sm z - 8388608)) := by
    unfold sm se
    split
    · left; omega
    · right; omega
  have hpar : sm z % 2 = z % 2 := by unfold sm; split <;> omega
  have p23 : (2 : Nat) ^ 23 = 8388608 := rfl
  have p24 : (2 : Nat) ^ 24 = 16777216 := rfl
  have f23 : (fp 3 - 1).toNat = 23 := rfl
  have hsg : ∀ k : Nat, (if (false : Bool) = true then k else 0) = 0 := fun k => rfl
  have hbc24 : (24 < blen c) ↔ c = 16777216 := by
    constructor
    · intro h
      have := blen_le.1 h
      rw [p24] at this
      omega
    · intro h; rw [h]; decide
  have hbc23 : (23 < blen c) ↔ 8388608 ≤ c := by
    constructor
    · intro h
      have := blen_le.1 h
      rwa [p23] at this
    · intro h; exact blen_le.2 (by rw [p23]; exact h)
  have hev : (z % 2 = 0 ∧ ev z = z) ∨ (z % 2 = 1 ∧ ev z = z + 1) := by unfold ev; split <;> omega
  by_cases h24 : c = 16777216
  · have hblc : blen c = 25 := by rw [h24]; decide
    have v := rnd_num1 (n := 3) hx1 hd (by rw [fp3, hblc]; decide) (by rw [hq, fp3, fe3]; omega)
    have ff := rnd_f (n := 3) hx1 hd (.inl ⟨by rw [fp3, hblc]; decide, by rw [hq, fp3, fe3]; omega⟩)
    have hcc : c / 2 = 8388608 := by omega
    have hb2 : blen 8388608 = 24 := by decide
    rw [v, hcc, hq]
    refine ⟨?_, ?_⟩
    · rw [packS_c1n (by omega) (.inl ⟨rfl, rfl, by rw [fp3, fe3]; omega, by rw [fp3, fe3]; omega, .inl (by rw [hb2, fp3]; rfl)⟩) (by rw [hb2, fp3]; rfl), f23, p23, fp3, fe3, hsg]
      omega
    · by_cases hr : rlow C 1 X < 2 - fe 3 - fp 3 + fp 3 - 1
      · exact .inr (ff.2.1 rfl hr)
      · exact .inl (ff.2.2 rfl (by omega))
  · have hb24 : (blen c : Int) ≤ fp 3 := by rw [fp3]; omega
    have v := rnd_num0 (n := 3) hx1 hd hb24 (by rw [hq, fp3, fe3]; omega)
    have ff := rnd_f (n := 3) hx1 hd (.inr ⟨hb24, by rw [hq, fp3, fe3]; omega⟩)
    rw [v, hq]
    refine ⟨?_, ?_⟩
    · by_cases h23 : 8388608 ≤ c
      · have hb2 : (blen c : Int) = fp 3 := by rw [fp3]; omega
        rw [packS_c1n (by omega) (.inl ⟨rfl, rfl, by rw [fp3, fe3]; omega, by rw [fp3, fe3]; omega, .inl hb2⟩) hb2, f23, p23, fp3, fe3, hsg]
        omega
      · have hb2 : (blen c : Int) < fp 3 := by rw [fp3]; omega
        rw [packS_c1d (by omega) (.inl ⟨rfl, rfl, by rw [fp3, fe3]; omega, by rw [fp3, fe3]; omega, .inr ⟨hb2, by rw [fp3, fe3]; omega⟩⟩) hb2, hsg]
        omega
    · by_cases hr : rlow C 1 X < 2 - fe 3 - fp 3 + fp 3 - 1
      · exact .inr (ff.2.1 rfl hr)
      · exact .inl (ff.2.2 rfl (by omega))
end Go.AM.LN
set_option maxRecDepth 20000
namespace Go.AM.LN
open Go
theorem andNot31 {a : Int} (h : 0 ≤ a ∧ a < 4294967296) : AM.bits .andNot .u32 a 2147483648 = a % 2147483648 := by
  simp only [AM.bits]
  have e1 : ~~~ (BitVec.ofInt IntKind.u32.bits 2147483648) = BitVec.ofNat IntKind.u32.bits (2 ^ 31 - 1) := by decide
  rw [e1, BitVec.toNat_and, ofInt_toNat h.1 (by simpa [IntKind.bits] using h.2)]
  have e2 : (BitVec.ofNat IntKind.u32.bits (2 ^ 31 - 1)).toNat = 2 ^ 31 - 1 := by decide
  rw [e2, Nat.and_two_pow_sub_one_eq_mod, wrap_u32 (by omega)]
  omega
theorem andNot63 {a : Int} (h : 0 ≤ a ∧ a < 18446744073709551616) : AM.bits .andNot .u64 a 9223372036854775808 = a % 9223372036854775808 := by
  simp only [AM.bits]
  have e1 : ~~~ (BitVec.ofInt IntKind.u64.bits 9223372036854775808) = BitVec.ofNat IntKind.u64.bits (2 ^ 63 - 1) := by decide
  rw [e1, BitVec.toNat_and, ofInt_toNat h.1 (by simpa [IntKind.bits] using h.2)]
  have e2 : (BitVec.ofNat IntKind.u64.bits (2 ^ 63 - 1)).toNat = 2 ^ 63 - 1 := by decide
  rw [e2, Nat.and_two_pow_sub_one_eq_mod, wrap_u64 (by omega)]
  omega
theorem and32i {a : Int} (h : 0 ≤ a ∧ a < 4294967296) : AM.bits .and .u64 a 4294967295 = a := by
  have := and_mask 32 (a := a) ⟨h.1, by omega⟩ (by omega)
  have e : (2 ^ 32 - 1 : Int) = 4294967295 := rfl
  have e2 : (2 ^ 32 : Int) = 4294967296 := rfl
  rw [e, e2] at this
  omega
theorem and88 : AM.bits .and .i64 8 8 = 8 := by decide
theorem and128 : AM.bits .and .i64 12 8 = 8 := by decide
theorem uV_lt {n : Int} (hn : 1 ≤ n ∧ n ≤ 6) {V : Nat} (h : uC n V = 1) : uV n V < 2 ^ 256 := by
  unfold uV
  rw [if_pos h]
  split
  · exact uF_lt hn V
  · exact or_lt (uF_lt hn V) (mod_lt256 _)
theorem w4_lo {R : Nat} (h : R < 18446744073709551616) : w4 R 0 = (R : Int) ∧ w4 R 1 = 0 ∧ w4 R 2 = 0 ∧ w4 R 3 = 0 := by
  refine ⟨w4_small h, ?_, ?_, ?_⟩
  · unfold w4; rw [show 2 ^ (64 * 1) = 18446744073709551616 from rfl, Nat.div_eq_of_lt h]; rfl
  · unfold w4; rw [Nat.div_eq_of_lt (Nat.lt_of_lt_of_le h (by decide))]; rfl
  · unfold w4; rw [Nat.div_eq_of_lt (Nat.lt_of_lt_of_le h (by decide))]; rfl
/-- A float32's pattern's class. -/
theorem uC3 {R : Nat} (h : R < 2139095040) : okB 3 R = true ∧ uC 3 R = 1 := by
  have f1 : (fp 3 - 1).toNat = 23 := rfl
  have f2 : (fx 3).toNat = 8 := rfl
  have p23 : (2 : Nat) ^ 23 = 8388608 := rfl
  have p8 : (2 : Nat) ^ 8 = 256 := rfl
  have p8i : (2 : Int) ^ 8 = 256 := rfl
  refine ⟨?_, ?_⟩
  · unfold okB
    have : blen R ≤ 32 := blen_lt.2 (Nat.lt_of_lt_of_le h (by decide))
    rw [decide_eq_true (by omega), Bool.true_and, decide_eq_true_eq]
    show (blen R : Int) ≤ 32
    omega
  · unfold uC uE
    rw [f1, f2, p23, p8, p8i, if_pos (by omega)]
theorem ord32 {z : Nat} (hz : z < 2139095040) : FloatKind.f32.format.order z z = some .eq := order_self (f := Ieee.single) (by rw [read32 hz]; rfl)
theorem ordN32 {z w : Nat} (h1 : 2139095040 < z) (h2 : z < 2147483648) : FloatKind.f32.format.order z w = none := order_nan (f := Ieee.single) (read32_nan h1 h2)
end Go.AM.LN
set_option maxRecDepth 20000
namespace Go.Proofs.AMT
open Go.AM Go.AM.LN
attribute [local congr] bindO_congr bindS_congr bindG_congr awpOps_congr aOne_congr awp_congr aCond_congr awpD_congr dOne_congr keysB_congr nOne_congr thenP_congr blockP_congr Chk_congr Brk_congr
noncomputable def s25 : CSpec := fun ds => match ds with
  | [.v (.int .i64 n), .v (.agg ⟨[.int .i64 cl, .bool sg, .bool si, .int .i64 ex, .int .u64 c0, .int .u64 c1, .int .u64 c2, .int .u64 c3]⟩)] => some (((0 ≤ c0 ∧ c0 < 18446744073709551616) ∧ (0 ≤ c1 ∧ c1 < 18446744073709551616) ∧ (0 ≤ c2 ∧ c2 < 18446744073709551616) ∧ (0 ≤ c3 ∧ c3 < 18446744073709551616)) ∧ cl = 1 ∧ (V4 c0 c1 c2 c3) ≠ 0, .many [.v (.agg #[.int .u64 0, .int .u64 0, .int .u64 0, .int .u64 0]), .v (.int .i64 0), .v (.bool false)])
  | _ => none
theorem s25_eq (n : Int) (cl : Int) (sg : Bool) (si : Bool) (ex : Int) (c0 : Int) (c1 : Int) (c2 : Int) (c3 : Int) : norm s25 [.v (.int .i64 n), .v (.agg #[.int .i64 cl, .bool sg, .bool si, .int .i64 ex, .int .u64 c0, .int .u64 c1, .int .u64 c2, .int .u64 c3])] = some (((0 ≤ c0 ∧ c0 < 18446744073709551616) ∧ (0 ≤ c1 ∧ c1 < 18446744073709551616) ∧ (0 ≤ c2 ∧ c2 < 18446744073709551616) ∧ (0 ≤ c3 ∧ c3 < 18446744073709551616)) ∧ cl = 1 ∧ (V4 c0 c1 c2 c3) ≠ 0, .many [.v (.agg #[.int .u64 0, .int .u64 0, .int .u64 0, .int .u64 0]), .v (.int .i64 0), .v (.bool false)]) := rfl
noncomputable def G25 : Gam := [(39, .body, norm s39), (42, .body, norm s42)]
theorem G25_ok : GamOk Try.prog G25 := gamOk_cons sound_39 (gamOk_cons sound_42 gamOk_nil)
theorem k25_39 : lk G25 39 = some (.body, norm s39) := rfl
theorem k25_42 : lk G25 42 = some (.body, norm s42) := rfl
set_option maxHeartbeats 20000000 in
theorem w25 (n : Int) (cl : Int) (sg : Bool) (si : Bool) (ex : Int) (c0 : Int) (c1 : Int) (c2 : Int) (c3 : Int) (hp : ((0 ≤ c0 ∧ c0 < 18446744073709551616) ∧ (0 ≤ c1 ∧ c1 < 18446744073709551616) ∧ (0 ≤ c2 ∧ c2 < 18446744073709551616) ∧ (0 ≤ c3 ∧ c3 < 18446744073709551616)) ∧ cl = 1 ∧ (V4 c0 c1 c2 c3) ≠ 0) : awp ty G25 (code Try.f25) (retP ty Try.f25.results.toList (.many [.v (.agg #[.int .u64 0, .int .u64 0, .int .u64 0, .int .u64 0]), .v (.int .i64 0), .v (.bool false)])) (entry 0 [.v (.int .i64 n), .v (.agg #[.int .i64 cl, .bool sg, .bool si, .int .i64 ex, .int .u64 c0, .int .u64 c1, .int .u64 c2, .int .u64 c3])]) [] := by
  unfold code
  simp only [Try.f25, Option.getD_some]
  obtain ⟨hc, rfl, h0⟩ := hp
  have hz := V4_zero hc.1.1 hc.2.1.1 hc.2.2.1.1 hc.2.2.2.1
  rw [decide_eq_false h0] at hz
  all_goals repeat' (first
    | ((first
       | (with_reducible refine ops_k ?_; intro X hX)
       | (with_reducible refine opsN_k ?_; intro X hX)
       | (with_reducible show awp _ _ _ _ (keepL _ _) _)
       | with_reducible refine awp_cond_k ?_
       | (with_reducible refine Brk_i ?_ ?_ <;> intro hb <;> (try simp only [hb]) <;> have hq := hb <;> try simp only [decide_eq_true_eq, decide_eq_false_iff_not, gt_iff_lt, ge_iff_le, Int.not_lt, Int.not_le, beq_iff_eq, beq_eq_false_iff_ne, Bool.not_eq_true', Bool.not_eq_false', Bool.and_eq_true, Bool.or_eq_true, Bool.and_eq_false_imp, Bool.or_eq_false_iff, ne_eq, Classical.not_not] at hq)
       | with_reducible refine retP_ret_i ?_
       | with_reducible refine retP_normal_i ?_
       | (with_reducible (show bindG _ _ _ _ _); simp only [hall])) <;> try simp only [Go.AM.S1, Go.AM.S2, Go.AM.S3, Go.AM.S4, Go.AM.S5, Go.AM.S6, Go.AM.S7, Go.AM.S8, Go.AM.S9, Nat.reduceAdd, Nat.reduceMul, Nat.reduceSub, ↓reduceIte, Nat.reduceEqDiff, Nat.reduceLT, Nat.reduceLeDiff, reduceCtorEq, Int.reduceBEq, Int.reduceBNe, Nat.reduceBEq, Int.reduceEq, Int.reduceToNat, Int.reduceLE, Int.reduceLT, Nat.reduceDiv, Int.reduceAdd, Int.reduceSub, Int.reduceMul, Int.reduceNeg, Int.reduceGT, Int.reduceGE, Nat.reduceMod, k25_39, s39_eq, k25_42, s42_eq, ty_3, ty_4, ty_9, ty_26, ty_28, ty_53, ty_58, hz])
    | (with_reducible refine hX _ _ ?_; clear hX X)
    | (with_reducible refine ops_nil_i ?_; try clear hall all)
    | (with_reducible refine opsN_nil_i ?_; try clear hall all)
    | (with_reducible refine hK _ _ ?_; clear hK K)
    | with_reducible refine thenP_normal_i ?_
    | (with_reducible refine zzr10 _ _ ?_; try clear zzr10 Kzzr10)
    | (with_reducible refine zzr9 _ _ ?_; try clear zzr9 Kzzr9)
    | (with_reducible refine zzb0 _ _ ?_; try clear zzb0 Kzzb0)
    | (with_reducible refine zzr5 _ _ ?_; try clear zzr5 Kzzr5)
    | (with_reducible refine zzr7 _ _ ?_; try clear zzr7 Kzzr7)
    | (with_reducible refine zzr6 _ _ ?_; try clear zzr6 Kzzr6)
    | (with_reducible refine zzr4 _ _ ?_; try clear zzr4 Kzzr4)
    | (with_reducible refine zzr2 _ _ ?_; try clear zzr2 Kzzr2)
    | (with_reducible refine zzr1 _ _ ?_; try clear zzr1 Kzzr1)
    | (with_reducible refine zzr0 _ _ ?_; try clear zzr0 Kzzr0)
    | (with_reducible refine awp_seq_l (a := .region 10 _ _) [4, 5, 6] ?_; intro Kzzr10 zzr10)
    | (with_reducible refine awp_seq_l (a := .region 9 _ _) [4, 7, 10] ?_; intro Kzzr9 zzr9)
    | (with_reducible refine awp_seq_l (a := .block 0 _) [0, 3, 4, 7] ?_; intro Kzzb0 zzb0)
    | (with_reducible refine awp_seq_l (a := .region 5 _ _) [4, 5, 6] ?_; intro Kzzr5 zzr5)
    | (with_reducible refine awp_seq_l (a := .region 7 _ _) [0, 3, 4, 7, 8] ?_; intro Kzzr7 zzr7)
    | (with_reducible refine awp_seq_l (a := .region 6 _ _) [0, 3, 4, 7, 33] ?_; intro Kzzr6 zzr6)
    | (with_reducible refine awp_seq_l (a := .region 4 _ _) [0, 3, 4, 7, 22] ?_; intro Kzzr4 zzr4)
    | (with_reducible refine awp_seq_l (a := .region 2 _ _) [0, 3, 4, 7, 12] ?_; intro Kzzr2 zzr2)
    | (with_reducible refine awp_seq_l (a := .region 1 _ _) [0, 3, 4, 7] ?_; intro Kzzr1 zzr1)
    | (with_reducible refine awp_seq_l (a := .region 0 _ _) [0, 3, 4] ?_; intro Kzzr0 zzr0)
    | (with_reducible refine awp_seq_k ?_; intro K hK)
    | (with_reducible refine awp_region_a ?_; intro all hall K hK)
    | (with_reducible refine awp_draw_n ?_ ?_; kernel_rfl; intro all hall K hK)
    | (with_reducible refine Chk_i ?_ ?_)
    | (with_reducible refine keysC_i ?_; kernel_rfl)
    | (with_reducible first | refine awp_block_i ?_ | refine awp_skip_i ?_ | refine awp_ret_i ?_ | refine awp_exit_i ?_ | refine thenP_ret_i ?_ | refine thenP_exit_i ?_ | refine lpP_ret_i ?_ | refine lpP_exit_i ?_ | refine unrP_succ_i ?_ | refine unrP_ret_i ?_ | refine unrP_exit_i ?_ | refine blockP_normal_i ?_ | refine blockP_ret_i ?_)
    | (with_reducible refine blockP_exit_i ?_; simp only [↓reduceIte, Nat.reduceEqDiff])
    | with_reducible refine lpP_normal_i ?_)
  all_goals (try clear zzr0; try clear Kzzr0)
  all_goals (try clear zzr1; try clear Kzzr1)
  all_goals (try clear zzr2; try clear Kzzr2)
  all_goals (try clear zzr4; try clear Kzzr4)
  all_goals (try clear zzr6; try clear Kzzr6)
  all_goals (try clear zzr7; try clear Kzzr7)
  all_goals (try clear zzr5; try clear Kzzr5)
  all_goals (try clear zzb0; try clear Kzzb0)
  all_goals (try clear zzr9; try clear Kzzr9)
  all_goals (try clear zzr10; try clear Kzzr10)
  all_goals (try simp only [inR])
  all_goals first
    | omega
    | skip
theorem sound_25 : Sound Try.prog 25 .body (norm s25) := by
  refine sound_norm (sound_body Try.func25 (show Try.f25.body = some (code Try.f25) from rfl) (by kernel_rfl) tysOk G25_ok (drawOk_ok (by kernel_rfl) tysOk G25_ok) (by kernel_rfl) fun ds p r hs hp => ?_)
  unfold s25 at hs
  split at hs
  · cases hs; exact ⟨Nat.le_of_ble_eq_true (by kernel_rfl), w25 _ _ _ _ _ _ _ _ _ hp⟩
  · cases hs
end Go.Proofs.AMT
set_option maxRecDepth 20000
namespace Go.Proofs.AMT
open Go.AM Go.AM.LN
attribute [local congr] bindO_congr bindS_congr bindG_congr awpOps_congr aOne_congr awp_congr aCond_congr awpD_congr dOne_congr keysB_congr nOne_congr thenP_congr blockP_congr Chk_congr Brk_congr
noncomputable def s71 : CSpec := fun ds => match ds with
  | [.sl .u64 a] => some (a.length ≤ 100000000, .one (.v (.int .i64 (sz a))))
  | _ => none
theorem s71_eq (a : List Int) : norm s71 [.sl .u64 a] = some (a.length ≤ 100000000, .one (.v (.int .i64 (sz a)))) := rfl
theorem s71_nil1  : norm s71 [.v (.slice none 0 0)] = some (([] : List Int).length ≤ 100000000, .one (.v (.int .i64 (sz ([] : List Int))))) := rfl
noncomputable def G71 : Gam := []
theorem G71_ok : GamOk Try.prog G71 := gamOk_nil
set_option maxHeartbeats 20000000 in
theorem w71 (a : List Int) (hp : a.length ≤ 100000000) : awp ty G71 (code Try.f71) (retP ty Try.f71.results.toList (.one (.v (.int .i64 (sz a))))) (entry 0 [.sl .u64 a]) [] := by
  unfold code
  simp only [Try.f71, Option.getD_some]
  all_goals repeat' (first
    | ((first
       | (with_reducible refine ops_k ?_; intro X hX)
       | (with_reducible refine opsN_k ?_; intro X hX)
       | (with_reducible show awp _ _ _ _ (keepL _ _) _)
       | with_reducible refine awp_cond_k ?_
       | (with_reducible refine Brk_i ?_ ?_ <;> intro hb <;> (try simp only [hb]) <;> have hq := hb <;> try simp only [decide_eq_true_eq, decide_eq_false_iff_not, gt_iff_lt, ge_iff_le, Int.not_lt, Int.not_le, beq_iff_eq, beq_eq_false_iff_ne, Bool.not_eq_true', Bool.not_eq_false', Bool.and_eq_true, Bool.or_eq_true, Bool.and_eq_false_imp, Bool.or_eq_false_iff, ne_eq, Classical.not_not] at hq)
       | with_reducible refine retP_ret_i ?_
       | with_reducible refine retP_normal_i ?_
       | (with_reducible (show bindG _ _ _ _ _); simp only [hall])) <;> try simp only [Go.AM.S1, Go.AM.S2, Go.AM.S3, Go.AM.S4, Go.AM.S5, Go.AM.S6, Go.AM.S7, Go.AM.S8, Go.AM.S9, Nat.reduceAdd, Nat.reduceMul, Nat.reduceSub, ↓reduceIte, Nat.reduceEqDiff, Nat.reduceLT, Nat.reduceLeDiff, reduceCtorEq, Int.reduceBEq, Int.reduceBNe, Nat.reduceBEq, Int.reduceEq, Int.reduceToNat, Int.reduceLE, Int.reduceLT, Nat.reduceDiv, Int.reduceAdd, Int.reduceSub, Int.reduceMul, Int.reduceNeg, Int.reduceGT, Int.reduceGE, Nat.reduceMod, ty_3, ty_26, ty_42])
    | (with_reducible refine hX _ _ ?_; clear hX X)
    | (with_reducible refine ops_nil_i ?_; try clear hall all)
    | (with_reducible refine opsN_nil_i ?_; try clear hall all)
    | (with_reducible refine hK _ _ ?_; clear hK K)
    | with_reducible refine thenP_normal_i ?_
    | (with_reducible refine zzr4 _ _ ?_; try clear zzr4 Kzzr4)
    | (with_reducible refine zzb0 _ _ ?_; try clear zzb0 Kzzb0)
    | (with_reducible refine zzsr2 _ _ ?_; try clear zzsr2 Kzzsr2)
    | (with_reducible refine zzr2 _ _ ?_; try clear zzr2 Kzzr2)
    | (with_reducible refine zzr1 _ _ ?_; try clear zzr1 Kzzr1)
    | (with_reducible refine zzr0 _ _ ?_; try clear zzr0 Kzzr0)
    | (with_reducible refine awp_lp (σ := Nat) (fun n => n ≤ a.length ∧ ∀ i, n ≤ i → a.getD i 0 = 0) (fun n => [(0, .rd .u64 a), (3, .v (.int .i64 n))]) (fun _ => []) (fun n => n) a.length ?_ ?_ (fun s hs => ?_))
    | (with_reducible refine awp_seq_l (a := .region 4 _ _) [2] ?_; intro Kzzr4 zzr4)
    | (with_reducible refine awp_seq_l (a := .block 0 _) [3] ?_; intro Kzzb0 zzb0)
    | (with_reducible refine awp_seq_l (a := .seq (.region 2 _ _) _) [0, 3] ?_; intro Kzzsr2 zzsr2)
    | (with_reducible refine awp_seq_l (a := .region 2 _ _) [0, 3, 15] ?_; intro Kzzr2 zzr2)
    | (with_reducible refine awp_seq_l (a := .region 1 _ _) [0, 3] ?_; intro Kzzr1 zzr1)
    | (with_reducible refine awp_seq_l (a := .region 0 _ _) [0] ?_; intro Kzzr0 zzr0)
    | (with_reducible refine awp_seq_k ?_; intro K hK)
    | (with_reducible refine awp_region_a ?_; intro all hall K hK)
    | (with_reducible refine awp_draw_n ?_ ?_; kernel_rfl; intro all hall K hK)
    | (with_reducible refine Chk_i ?_ ?_)
    | (with_reducible refine keysC_i ?_; kernel_rfl)
    | (with_reducible first | refine awp_block_i ?_ | refine awp_skip_i ?_ | refine awp_ret_i ?_ | refine awp_exit_i ?_ | refine thenP_ret_i ?_ | refine thenP_exit_i ?_ | refine lpP_ret_i ?_ | refine lpP_exit_i ?_ | refine unrP_succ_i ?_ | refine unrP_ret_i ?_ | refine unrP_exit_i ?_ | refine blockP_normal_i ?_ | refine blockP_ret_i ?_)
    | (with_reducible refine blockP_exit_i ?_; simp only [↓reduceIte, Nat.reduceEqDiff])
    | with_reducible refine lpP_normal_i ?_)
  all_goals (try clear zzr0; try clear Kzzr0)
  all_goals (try clear zzr1; try clear Kzzr1)
  all_goals (try clear zzr2; try clear Kzzr2)
  all_goals (try clear zzsr2; try clear Kzzsr2)
  all_goals (try clear zzb0; try clear Kzzb0)
  all_goals (try clear zzr4; try clear Kzzr4)
  all_goals (try simp only [inR])
  · exact ⟨Nat.le_refl _, fun i hi => by simp [List.getD, List.getElem?_eq_none hi]⟩
  · exact Ent.refl _ _
  · omega
  · omega
  · omega
  · refine ⟨s - 1, by (refine ent_ok [] rfl ?_ ?_ <;> simp only [memLe, slotsLe, AvLe, lk, ↓reduceIte, Nat.reduceEqDiff, Option.isSome_some, and_self, and_true, true_and, reduceCtorEq, List.map_nil, List.map_cons, Option.some.injEq, AV.v.injEq, Value.int.injEq, Value.bool.injEq, AV.rd.injEq, AV.ow.injEq, AV.al.injEq, AV.ref.injEq] <;> omega), ⟨by omega, fun i hi => ?_⟩, by omega⟩
    by_cases h : s ≤ i
    · exact hs.2 i h
    · have : i = s - 1 := by omega
      subst this
      have e : ((s : Int) - 1).toNat = s - 1 := by omega
      rw [e] at hq
      exact hq
  · have e : ((s : Int) - 1).toNat = s - 1 := by omega
    rw [e] at hq
    rw [sz_eq s hs.1 hs.2 (.inr hq)]
  · rw [sz_eq s hs.1 hs.2 (.inl (by omega))]
theorem sound_71 : Sound Try.prog 71 .body (norm s71) := by
  refine sound_norm (sound_body Try.func71 (show Try.f71.body = some (code Try.f71) from rfl) (by kernel_rfl) tysOk G71_ok (drawOk_ok (by kernel_rfl) tysOk G71_ok) (by kernel_rfl) fun ds p r hs hp => ?_)
  unfold s71 at hs
  split at hs
  · cases hs; exact ⟨Nat.le_of_ble_eq_true (by kernel_rfl), w71 _ hp⟩
  · cases hs
end Go.Proofs.AMT
set_option maxRecDepth 20000
namespace Go.Proofs.AMT
open Go.AM Go.AM.LN
attribute [local congr] bindO_congr bindS_congr bindG_congr awpOps_congr aOne_congr awp_congr aCond_congr awpD_congr dOne_congr keysB_congr nOne_congr thenP_congr blockP_congr Chk_congr Brk_congr
noncomputable def s43 : CSpec := fun ds => match ds with
  | [.sl .u64 a] => some (lim a ∧ a.length ≤ 100000000, .one (.fresh .u64 (limbs (val a))))
  | _ => none
theorem s43_eq (a : List Int) : norm s43 [.sl .u64 a] = some (lim a ∧ a.length ≤ 100000000, .one (.fresh .u64 (limbs (val a)))) := rfl
theorem s43_nil1  : norm s43 [.v (.slice none 0 0)] = some (lim ([] : List Int) ∧ ([] : List Int).length ≤ 100000000, .one (.fresh .u64 (limbs (val ([] : List Int))))) := rfl
noncomputable def G43 : Gam := [(70, .body, norm sClone), (71, .body, norm s71)]
theorem G43_ok : GamOk Try.prog G43 := gamOk_cons clone_n (gamOk_cons sound_71 gamOk_nil)
theorem k43_70 : lk G43 70 = some (.body, norm sClone) := rfl
theorem k43_71 : lk G43 71 = some (.body, norm s71) := rfl
set_option maxHeartbeats 20000000 in
theorem w43 (a : List Int) (hp : lim a ∧ a.length ≤ 100000000) : awp ty G43 (code Try.f43) (retP ty Try.f43.results.toList (.one (.fresh .u64 (limbs (val a))))) (entry 0 [.sl .u64 a]) [] := by
  unfold code
  simp only [Try.f43, Option.getD_some]
  have z := sz_le a
  all_goals repeat' (first
    | ((first
       | (with_reducible refine ops_k ?_; intro X hX)
       | (with_reducible refine opsN_k ?_; intro X hX)
       | (with_reducible show awp _ _ _ _ (keepL _ _) _)
       | with_reducible refine awp_cond_k ?_
       | (with_reducible refine Brk_i ?_ ?_ <;> intro hb <;> (try simp only [hb]) <;> have hq := hb <;> try simp only [decide_eq_true_eq, decide_eq_false_iff_not, gt_iff_lt, ge_iff_le, Int.not_lt, Int.not_le, beq_iff_eq, beq_eq_false_iff_ne, Bool.not_eq_true', Bool.not_eq_false', Bool.and_eq_true, Bool.or_eq_true, Bool.and_eq_false_imp, Bool.or_eq_false_iff, ne_eq, Classical.not_not] at hq)
       | with_reducible refine retP_ret_i ?_
       | with_reducible refine retP_normal_i ?_
       | (with_reducible (show bindG _ _ _ _ _); simp only [hall])) <;> try simp only [Go.AM.S1, Go.AM.S2, Go.AM.S3, Go.AM.S4, Go.AM.S5, Go.AM.S6, Go.AM.S7, Go.AM.S8, Go.AM.S9, Nat.reduceAdd, Nat.reduceMul, Nat.reduceSub, ↓reduceIte, Nat.reduceEqDiff, Nat.reduceLT, Nat.reduceLeDiff, reduceCtorEq, Int.reduceBEq, Int.reduceBNe, Nat.reduceBEq, Int.reduceEq, Int.reduceToNat, Int.reduceLE, Int.reduceLT, Nat.reduceDiv, Int.reduceAdd, Int.reduceSub, Int.reduceMul, Int.reduceNeg, Int.reduceGT, Int.reduceGE, Nat.reduceMod, k43_70, sClone_eq, sClone_nil, k43_71, s71_eq, s71_nil1, ty_26, ty_42, take_sz hp.1])
    | (with_reducible refine hX _ _ ?_; clear hX X)
    | (with_reducible refine ops_nil_i ?_; try clear hall all)
    | (with_reducible refine opsN_nil_i ?_; try clear hall all)
    | (with_reducible refine hK _ _ ?_; clear hK K)
    | with_reducible refine thenP_normal_i ?_
    | (with_reducible refine zzr1 _ _ ?_; try clear zzr1 Kzzr1)
    | (with_reducible refine zzr0 _ _ ?_; try clear zzr0 Kzzr0)
    | (with_reducible refine awp_seq_l (a := .region 1 _ _) [2] ?_; intro Kzzr1 zzr1)
    | (with_reducible refine awp_seq_l (a := .region 0 _ _) [0] ?_; intro Kzzr0 zzr0)
    | (with_reducible refine awp_seq_k ?_; intro K hK)
    | (with_reducible refine awp_region_a ?_; intro all hall K hK)
    | (with_reducible refine awp_draw_n ?_ ?_; kernel_rfl; intro all hall K hK)
    | (with_reducible refine Chk_i ?_ ?_)
    | (with_reducible refine keysC_i ?_; kernel_rfl)
    | (with_reducible first | refine awp_block_i ?_ | refine awp_skip_i ?_ | refine awp_ret_i ?_ | refine awp_exit_i ?_ | refine thenP_ret_i ?_ | refine thenP_exit_i ?_ | refine lpP_ret_i ?_ | refine lpP_exit_i ?_ | refine unrP_succ_i ?_ | refine unrP_ret_i ?_ | refine unrP_exit_i ?_ | refine blockP_normal_i ?_ | refine blockP_ret_i ?_)
    | (with_reducible refine blockP_exit_i ?_; simp only [↓reduceIte, Nat.reduceEqDiff])
    | with_reducible refine lpP_normal_i ?_)
  all_goals (try clear zzr0; try clear Kzzr0)
  all_goals (try clear zzr1; try clear Kzzr1)
  all_goals first
    | omega
    | (rw [← take_sz hp.1, List.length_take]; omega)
theorem sound_43 : Sound Try.prog 43 .body (norm s43) := by
  refine sound_norm (sound_body Try.func43 (show Try.f43.body = some (code Try.f43) from rfl) (by kernel_rfl) tysOk G43_ok (drawOk_ok (by kernel_rfl) tysOk G43_ok) (by kernel_rfl) fun ds p r hs hp => ?_)
  unfold s43 at hs
  split at hs
  · cases hs; exact ⟨Nat.le_of_ble_eq_true (by kernel_rfl), w43 _ hp⟩
  · cases hs
end Go.Proofs.AMT
set_option maxRecDepth 20000
namespace Go.Proofs.AMT
open Go.AM Go.AM.LN
attribute [local congr] bindO_congr bindS_congr bindG_congr awpOps_congr aOne_congr awp_congr aCond_congr awpD_congr dOne_congr keysB_congr nOne_congr thenP_congr blockP_congr Chk_congr Brk_congr
noncomputable def s28 : CSpec := fun ds => match ds with
  | [.v (.int .u64 n)] => some (0 ≤ n ∧ n < 18446744073709551616, .one (.fresh .u64 (limbs n.toNat)))
  | _ => none
theorem s28_eq (n : Int) : norm s28 [.v (.int .u64 n)] = some (0 ≤ n ∧ n < 18446744073709551616, .one (.fresh .u64 (limbs n.toNat))) := rfl
noncomputable def G28 : Gam := [(43, .body, norm s43)]
theorem G28_ok : GamOk Try.prog G28 := gamOk_cons sound_43 gamOk_nil
theorem k28_43 : lk G28 43 = some (.body, norm s43) := rfl
set_option maxHeartbeats 20000000 in
theorem w28 (n : Int) (hp : 0 ≤ n ∧ n < 18446744073709551616) : awp ty G28 (code Try.f28) (retP ty Try.f28.results.toList (.one (.fresh .u64 (limbs n.toNat)))) (entry 0 [.v (.int .u64 n)]) [] := by
  unfold code
  simp only [Try.f28, Option.getD_some]
  all_goals repeat' (first
    | ((first
       | (with_reducible refine ops_k ?_; intro X hX)
       | (with_reducible refine opsN_k ?_; intro X hX)
       | (with_reducible show awp _ _ _ _ (keepL _ _) _)
       | with_reducible refine awp_cond_k ?_
       | (with_reducible refine Brk_i ?_ ?_ <;> intro hb <;> (try simp only [hb]) <;> have hq := hb <;> try simp only [decide_eq_true_eq, decide_eq_false_iff_not, gt_iff_lt, ge_iff_le, Int.not_lt, Int.not_le, beq_iff_eq, beq_eq_false_iff_ne, Bool.not_eq_true', Bool.not_eq_false', Bool.and_eq_true, Bool.or_eq_true, Bool.and_eq_false_imp, Bool.or_eq_false_iff, ne_eq, Classical.not_not] at hq)
       | with_reducible refine retP_ret_i ?_
       | with_reducible refine retP_normal_i ?_
       | (with_reducible (show bindG _ _ _ _ _); simp only [hall])) <;> try simp only [Go.AM.S1, Go.AM.S2, Go.AM.S3, Go.AM.S4, Go.AM.S5, Go.AM.S6, Go.AM.S7, Go.AM.S8, Go.AM.S9, Nat.reduceAdd, Nat.reduceMul, Nat.reduceSub, ↓reduceIte, Nat.reduceEqDiff, Nat.reduceLT, Nat.reduceLeDiff, reduceCtorEq, Int.reduceBEq, Int.reduceBNe, Nat.reduceBEq, Int.reduceEq, Int.reduceToNat, Int.reduceLE, Int.reduceLT, Nat.reduceDiv, Int.reduceAdd, Int.reduceSub, Int.reduceMul, Int.reduceNeg, Int.reduceGT, Int.reduceGE, Nat.reduceMod, k28_43, s43_eq, s43_nil1, ty_26, ty_42, sz_one, toInts])
    | (with_reducible refine hX _ _ ?_; clear hX X)
    | (with_reducible refine ops_nil_i ?_; try clear hall all)
    | (with_reducible refine opsN_nil_i ?_; try clear hall all)
    | (with_reducible refine hK _ _ ?_; clear hK K)
    | with_reducible refine thenP_normal_i ?_
    | (with_reducible refine zzr1 _ _ ?_; try clear zzr1 Kzzr1)
    | (with_reducible refine zzr0 _ _ ?_; try clear zzr0 Kzzr0)
    | (with_reducible refine awp_seq_l (a := .region 1 _ _) [2] ?_; intro Kzzr1 zzr1)
    | (with_reducible refine awp_seq_l (a := .region 0 _ _) [0] ?_; intro Kzzr0 zzr0)
    | (with_reducible refine awp_seq_k ?_; intro K hK)
    | (with_reducible refine awp_region_a ?_; intro all hall K hK)
    | (with_reducible refine awp_draw_n ?_ ?_; kernel_rfl; intro all hall K hK)
    | (with_reducible refine Chk_i ?_ ?_)
    | (with_reducible refine keysC_i ?_; kernel_rfl)
    | (with_reducible first | refine awp_block_i ?_ | refine awp_skip_i ?_ | refine awp_ret_i ?_ | refine awp_exit_i ?_ | refine thenP_ret_i ?_ | refine thenP_exit_i ?_ | refine lpP_ret_i ?_ | refine lpP_exit_i ?_ | refine unrP_succ_i ?_ | refine unrP_ret_i ?_ | refine unrP_exit_i ?_ | refine blockP_normal_i ?_ | refine blockP_ret_i ?_)
    | (with_reducible refine blockP_exit_i ?_; simp only [↓reduceIte, Nat.reduceEqDiff])
    | with_reducible refine lpP_normal_i ?_)
  all_goals (try clear zzr0; try clear Kzzr0)
  all_goals (try clear zzr1; try clear Kzzr1)
  all_goals first
    | exact lim_one hp
    | exact ⟨lim_one hp, Nat.le_of_ble_eq_true rfl⟩
theorem sound_28 : Sound Try.prog 28 .body (norm s28) := by
  refine sound_norm (sound_body Try.func28 (show Try.f28.body = some (code Try.f28) from rfl) (by kernel_rfl) tysOk G28_ok (drawOk_ok (by kernel_rfl) tysOk G28_ok) (by kernel_rfl) fun ds p r hs hp => ?_)
  unfold s28 at hs
  split at hs
  · cases hs; exact ⟨Nat.le_of_ble_eq_true (by kernel_rfl), w28 _ hp⟩
  · cases hs
end Go.Proofs.AMT
set_option maxRecDepth 20000
namespace Go.Proofs.AMT
open Go.AM Go.AM.LN
attribute [local congr] bindO_congr bindS_congr bindG_congr awpOps_congr aOne_congr awp_congr aCond_congr awpD_congr dOne_congr keysB_congr nOne_congr thenP_congr blockP_congr Chk_congr Brk_congr
noncomputable def s44 : CSpec := fun ds => match ds with
  | [.sl .u64 a] => some (lim a ∧ a.length ≤ 100000000, .one (.v (.int .i64 (blen (val a)))))
  | _ => none
theorem s44_eq (a : List Int) : norm s44 [.sl .u64 a] = some (lim a ∧ a.length ≤ 100000000, .one (.v (.int .i64 (blen (val a))))) := rfl
theorem s44_nil1  : norm s44 [.v (.slice none 0 0)] = some (lim ([] : List Int) ∧ ([] : List Int).length ≤ 100000000, .one (.v (.int .i64 (blen (val ([] : List Int)))))) := rfl
noncomputable def G44 : Gam := [(67, .body, norm s67), (71, .body, norm s71)]
theorem G44_ok : GamOk Try.prog G44 := gamOk_cons sound_67 (gamOk_cons sound_71 gamOk_nil)
theorem k44_67 : lk G44 67 = some (.body, norm s67) := rfl
theorem k44_71 : lk G44 71 = some (.body, norm s71) := rfl
set_option maxHeartbeats 20000000 in
theorem w44 (a : List Int) (hp : lim a ∧ a.length ≤ 100000000) : awp ty G44 (code Try.f44) (retP ty Try.f44.results.toList (.one (.v (.int .i64 (blen (val a)))))) (entry 0 [.sl .u64 a]) [] := by
  unfold code
  simp only [Try.f44, Option.getD_some]
  have za := sz_le a
  all_goals repeat' (first
    | ((first
       | (with_reducible refine ops_k ?_; intro X hX)
       | (with_reducible refine opsN_k ?_; intro X hX)
       | (with_reducible show awp _ _ _ _ (keepL _ _) _)
       | with_reducible refine awp_cond_k ?_
       | (with_reducible refine Brk_i ?_ ?_ <;> intro hb <;> (try simp only [hb]) <;> have hq := hb <;> try simp only [decide_eq_true_eq, decide_eq_false_iff_not, gt_iff_lt, ge_iff_le, Int.not_lt, Int.not_le, beq_iff_eq, beq_eq_false_iff_ne, Bool.not_eq_true', Bool.not_eq_false', Bool.and_eq_true, Bool.or_eq_true, Bool.and_eq_false_imp, Bool.or_eq_false_iff, ne_eq, Classical.not_not] at hq)
       | with_reducible refine retP_ret_i ?_
       | with_reducible refine retP_normal_i ?_
       | (with_reducible (show bindG _ _ _ _ _); simp only [hall])) <;> try simp only [Go.AM.S1, Go.AM.S2, Go.AM.S3, Go.AM.S4, Go.AM.S5, Go.AM.S6, Go.AM.S7, Go.AM.S8, Go.AM.S9, Nat.reduceAdd, Nat.reduceMul, Nat.reduceSub, ↓reduceIte, Nat.reduceEqDiff, Nat.reduceLT, Nat.reduceLeDiff, reduceCtorEq, Int.reduceBEq, Int.reduceBNe, Nat.reduceBEq, Int.reduceEq, Int.reduceToNat, Int.reduceLE, Int.reduceLT, Nat.reduceDiv, Int.reduceAdd, Int.reduceSub, Int.reduceMul, Int.reduceNeg, Int.reduceGT, Int.reduceGE, Nat.reduceMod, k44_67, s67_eq, k44_71, s71_eq, s71_nil1, ty_3, ty_26, ty_42])
    | (with_reducible refine hX _ _ ?_; clear hX X)
    | (with_reducible refine ops_nil_i ?_; try clear hall all)
    | (with_reducible refine opsN_nil_i ?_; try clear hall all)
    | (with_reducible refine hK _ _ ?_; clear hK K)
    | with_reducible refine thenP_normal_i ?_
    | (with_reducible refine zzr4 _ _ ?_; try clear zzr4 Kzzr4)
    | (with_reducible refine zzsr2 _ _ ?_; try clear zzsr2 Kzzsr2)
    | (with_reducible refine zzr3 _ _ ?_; try clear zzr3 Kzzr3)
    | (with_reducible refine zzr2 _ _ ?_; try clear zzr2 Kzzr2)
    | (with_reducible refine zzr1 _ _ ?_; try clear zzr1 Kzzr1)
    | (with_reducible refine zzr0 _ _ ?_; try clear zzr0 Kzzr0)
    | (with_reducible refine awp_seq_l (a := .region 4 _ _) [2] ?_; intro Kzzr4 zzr4)
    | (with_reducible refine awp_seq_l (a := .seq (.region 2 _ _) _) [0, 3] ?_; intro Kzzsr2 zzsr2)
    | (with_reducible refine awp_seq_l (a := .region 3 _ _) [2] ?_; intro Kzzr3 zzr3)
    | (with_reducible refine awp_seq_l (a := .region 2 _ _) [0, 3, 7] ?_; intro Kzzr2 zzr2)
    | (with_reducible refine awp_seq_l (a := .region 1 _ _) [0, 3] ?_; intro Kzzr1 zzr1)
    | (with_reducible refine awp_seq_l (a := .region 0 _ _) [0] ?_; intro Kzzr0 zzr0)
    | (with_reducible refine awp_seq_k ?_; intro K hK)
    | (with_reducible refine awp_region_a ?_; intro all hall K hK)
    | (with_reducible refine awp_draw_n ?_ ?_; kernel_rfl; intro all hall K hK)
    | (with_reducible refine Chk_i ?_ ?_)
    | (with_reducible refine keysC_i ?_; kernel_rfl)
    | (with_reducible first | refine awp_block_i ?_ | refine awp_skip_i ?_ | refine awp_ret_i ?_ | refine awp_exit_i ?_ | refine thenP_ret_i ?_ | refine thenP_exit_i ?_ | refine lpP_ret_i ?_ | refine lpP_exit_i ?_ | refine unrP_succ_i ?_ | refine unrP_ret_i ?_ | refine unrP_exit_i ?_ | refine blockP_normal_i ?_ | refine blockP_ret_i ?_)
    | (with_reducible refine blockP_exit_i ?_; simp only [↓reduceIte, Nat.reduceEqDiff])
    | with_reducible refine lpP_normal_i ?_)
  all_goals (try clear zzr0; try clear Kzzr0)
  all_goals (try clear zzr1; try clear Kzzr1)
  all_goals (try clear zzr2; try clear Kzzr2)
  all_goals (try clear zzr3; try clear Kzzr3)
  all_goals (try clear zzsr2; try clear Kzzsr2)
  all_goals (try clear zzr4; try clear Kzzr4)
  all_goals (try simp only [inR])
  all_goals (try omega)
  · have h0 := (sz_zero hp.1).1 (by omega)
    rw [h0]; rfl
  all_goals have e : ((sz a : Int) - 1).toNat = sz a - 1 := by omega
  all_goals rw [e]
  all_goals have hg := lim_get hp.1 (i := sz a - 1)
  · exact hg
  all_goals have h1 := blen_top hp.1 (by omega)
  all_goals have h2 : blen (a.getD (sz a - 1) 0).toNat ≤ 64 := blen_lt.2 (by omega)
  · omega
  · refine congrArg _ ?_
    omega
theorem sound_44 : Sound Try.prog 44 .body (norm s44) := by
  refine sound_norm (sound_body Try.func44 (show Try.f44.body = some (code Try.f44) from rfl) (by kernel_rfl) tysOk G44_ok (drawOk_ok (by kernel_rfl) tysOk G44_ok) (by kernel_rfl) fun ds p r hs hp => ?_)
  unfold s44 at hs
  split at hs
  · cases hs; exact ⟨Nat.le_of_ble_eq_true (by kernel_rfl), w44 _ hp⟩
  · cases hs
end Go.Proofs.AMT
set_option maxRecDepth 20000
namespace Go.Proofs.AMT
open Go.AM Go.AM.LN
attribute [local congr] bindO_congr bindS_congr bindG_congr awpOps_congr aOne_congr awp_congr aCond_congr awpD_congr dOne_congr keysB_congr nOne_congr thenP_congr blockP_congr Chk_congr Brk_congr
noncomputable def s72 : CSpec := fun ds => match ds with
  | [.sl .u64 a, .v (.int .i64 n)] => some ((lim a ∧ a.length ≤ 100000000) ∧ 0 ≤ n ∧ (sz a : Int) + (n + 63) / 64 ≤ 2000, .many [.fresh .u64 (limbs (val a * 2 ^ n.toNat)), .v (.int .i64 0)])
  | _ => none
theorem s72_eq (a : List Int) (n : Int) : norm s72 [.sl .u64 a, .v (.int .i64 n)] = some ((lim a ∧ a.length ≤ 100000000) ∧ 0 ≤ n ∧ (sz a : Int) + (n + 63) / 64 ≤ 2000, .many [.fresh .u64 (limbs (val a * 2 ^ n.toNat)), .v (.int .i64 0)]) := rfl
theorem s72_nil1  (n : Int) : norm s72 [.v (.slice none 0 0), .v (.int .i64 n)] = some ((lim ([] : List Int) ∧ ([] : List Int).length ≤ 100000000) ∧ 0 ≤ n ∧ (sz ([] : List Int) : Int) + (n + 63) / 64 ≤ 2000, .many [.fresh .u64 (limbs (val ([] : List Int) * 2 ^ n.toNat)), .v (.int .i64 0)]) := rfl
noncomputable def G72 : Gam := [(71, .body, norm s71)]
theorem G72_ok : GamOk Try.prog G72 := gamOk_cons sound_71 gamOk_nil
theorem k72_71 : lk G72 71 = some (.body, norm s71) := rfl
set_option maxHeartbeats 20000000 in
theorem w72 (a : List Int) (n : Int) (hp : (lim a ∧ a.length ≤ 100000000) ∧ 0 ≤ n ∧ (sz a : Int) + (n + 63) / 64 ≤ 2000) : awp ty G72 (code Try.f72) (retP ty Try.f72.results.toList (.many [.fresh .u64 (limbs (val a * 2 ^ n.toNat)), .v (.int .i64 0)])) (entry 0 [.sl .u64 a, .v (.int .i64 n)]) [] := by
  unfold code
  simp only [Try.f72, Option.getD_some]
  have za := sz_le a
  have ya := len_limbs_sz hp.1.1
  obtain ⟨k, rfl⟩ := Int.eq_ofNat_of_zero_le hp.2.1
  have hk : k = 64 * (k / 64) + k % 64 := by omega
  generalize hw : k / 64 = w at *
  generalize hs : k % 64 = s at *
  have hd : (k : Int).tdiv 64 = (w : Int) := by rw [Int.tdiv_eq_ediv_of_nonneg (by omega)]; omega
  have hm : (k : Int).tmod 64 = (s : Int) := by rw [Int.tmod_eq_emod_of_nonneg (by omega)]; omega
  have h63 : ((k : Int) + 63).tdiv 64 = ((k : Int) + 63) / 64 := by rw [Int.tdiv_eq_ediv_of_nonneg (by omega)]
  have g1 : decide ((k : Int) < 0) = false := by simp
  have g2 : decide ((w : Int) > 2000) = false := by simp only [decide_eq_false_iff_not]; omega
  have g3 : decide (((limbs (val a)).length : Int) + ((k : Int) + 63) / 64 > 2000) = false := by simp only [decide_eq_false_iff_not]; omega
  have m1 : min s 64 = s := by omega
  have m2 : (64 - (s : Int)).toNat = 64 - s := by omega
  have m3 : min (64 - s) 64 = 64 - s := by omega
  obtain ⟨N, hN⟩ : ∃ N, N = w + ((limbs (val a)).length + 1) := ⟨_, rfl⟩
  have lenW : (((limbs (val a)).length : Int) + (w : Int) + 1).toNat = N := by omega
  have copyW := copy0 hN
  have h0 := shl0_mk (va := val a) hN
  have hwN := h0.wN
  generalize List.replicate w 0 ++ limbs (val a) ++ [0] = o0 at *
  all_goals repeat' (first
    | ((first
       | (with_reducible refine ops_k ?_; intro X hX)
       | (with_reducible refine opsN_k ?_; intro X hX)
       | (with_reducible show awp _ _ _ _ (keepL _ _) _)
       | (with_reducible refine hX _ _ _ _ ?_; clear hX X)
       | (with_reducible refine opsD_k ?_; intro X hX)
       | with_reducible refine awp_cond_k ?_
       | (with_reducible refine Brk_i ?_ ?_ <;> intro hb <;> (try simp only [hb]) <;> have hq := hb <;> try simp only [decide_eq_true_eq, decide_eq_false_iff_not, gt_iff_lt, ge_iff_le, Int.not_lt, Int.not_le, beq_iff_eq, beq_eq_false_iff_ne, Bool.not_eq_true', Bool.not_eq_false', Bool.and_eq_true, Bool.or_eq_true, Bool.and_eq_false_imp, Bool.or_eq_false_iff, ne_eq, Classical.not_not] at hq)
       | with_reducible refine retP_ret_i ?_
       | with_reducible refine retP_normal_i ?_
       | (with_reducible (show bindG _ _ _ _ _); simp only [hall])) <;> try simp only [Go.AM.S1, Go.AM.S2, Go.AM.S3, Go.AM.S4, Go.AM.S5, Go.AM.S6, Go.AM.S7, Go.AM.S8, Go.AM.S9, Nat.reduceAdd, Nat.reduceMul, Nat.reduceSub, ↓reduceIte, Nat.reduceEqDiff, Nat.reduceLT, Nat.reduceLeDiff, reduceCtorEq, Int.reduceBEq, Int.reduceBNe, Nat.reduceBEq, Int.reduceEq, Int.reduceToNat, Int.reduceLE, Int.reduceLT, Nat.reduceDiv, Int.reduceAdd, Int.reduceSub, Int.reduceMul, Int.reduceNeg, Int.reduceGT, Int.reduceGE, Nat.reduceMod, k72_71, s71_eq, s71_nil1, ty_3, ty_26, ty_42, take_sz hp.1.1, hd, hm, g1, g2, g3, aOne_copy, bindP_some, spCopy, spAppend, intSl, yInts, layAt, IntKind.bits, m1, m2, m3, h63, lenW, copyW, List.length_replicate, h0.len])
    | (with_reducible refine hX _ _ ?_; clear hX X)
    | (with_reducible refine opsD_nil_i ?_; try clear hall all)
    | (with_reducible refine keysB_i ?_; kernel_rfl)
    | ((with_reducible show clashK _ _ _ = true); kernel_rfl)
    | (with_reducible refine ops_nil_i ?_; try clear hall all)
    | (with_reducible refine opsN_nil_i ?_; try clear hall all)
    | (with_reducible refine hK _ _ ?_; clear hK K)
    | with_reducible refine thenP_normal_i ?_
    | (with_reducible refine zzr15 _ _ ?_; try clear zzr15 Kzzr15)
    | (with_reducible refine zzsr8 _ _ ?_; try clear zzsr8 Kzzsr8)
    | (with_reducible refine zzsr10 _ _ ?_; try clear zzsr10 Kzzsr10)
    | (with_reducible refine zzb2 _ _ ?_; try clear zzb2 Kzzb2)
    | (with_reducible refine zzsr11 _ _ ?_; try clear zzsr11 Kzzsr11)
    | (with_reducible refine zzr11 _ _ ?_; try clear zzr11 Kzzr11)
    | (with_reducible refine zzr10 _ _ ?_; try clear zzr10 Kzzr10)
    | (with_reducible refine zzr9 _ _ ?_; try clear zzr9 Kzzr9)
    | (with_reducible refine zzr8 _ _ ?_; try clear zzr8 Kzzr8)
    | (with_reducible refine zzr7 _ _ ?_; try clear zzr7 Kzzr7)
    | (with_reducible refine zzr6 _ _ ?_; try clear zzr6 Kzzr6)
    | (with_reducible refine zzb0 _ _ ?_; try clear zzb0 Kzzb0)
    | (with_reducible refine zzr3 _ _ ?_; try clear zzr3 Kzzr3)
    | (with_reducible refine zzr5 _ _ ?_; try clear zzr5 Kzzr5)
    | (with_reducible refine zzr4 _ _ ?_; try clear zzr4 Kzzr4)
    | (with_reducible refine zzr2 _ _ ?_; try clear zzr2 Kzzr2)
    | (with_reducible refine zzr1 _ _ ?_; try clear zzr1 Kzzr1)
    | (with_reducible refine zzr0 _ _ ?_; try clear zzr0 Kzzr0)
    | (with_reducible refine awp_lp (σ := Nat × List Int) (fun s1 => w ≤ s1.1 ∧ s1.1 < N ∧ s1.2.length = N ∧ lim s1.2 ∧ s1.2.take (s1.1 + 1) = o0.take (s1.1 + 1) ∧ val (s1.2.drop (s1.1 + 1)) = val (o0.drop (s1.1 + 1)) * 2 ^ s + (o0.getD s1.1 0).toNat / 2 ^ (64 - s)) (fun s1 => [(1, .v (.int .i64 k)), (6, .ow 560), (7, .v (.int .i64 s)), (8, .v (.int .i64 s1.1))]) (fun s1 => [(560, .ints .u64 s1.2, false)]) (fun s1 => s1.1) (N - 1, o0) ?_ ?_ (fun s1 hs1 => ?_))
    | (with_reducible refine awp_seq_l (a := .region 15 _ _) [4, 5] ?_; intro Kzzr15 zzr15)
    | (with_reducible refine awp_seq_l (a := .seq (.region 8 _ _) _) [6] ?_; intro Kzzsr8 zzsr8)
    | (with_reducible refine awp_seq_l (a := .seq (.region 10 _ _) _) [1, 6, 7] ?_; intro Kzzsr10 zzsr10)
    | (with_reducible refine awp_seq_l (a := .block 2 _) [1, 6, 7, 8] ?_; intro Kzzb2 zzb2)
    | (with_reducible refine awp_seq_l (a := .seq (.region 11 _ _) _) [1, 6, 7, 8] ?_; intro Kzzsr11 zzsr11)
    | (with_reducible refine awp_seq_l (a := .region 11 _ _) [1, 6, 7, 8, 52] ?_; intro Kzzr11 zzr11)
    | (with_reducible refine awp_seq_l (a := .region 10 _ _) [1, 6, 7, 8] ?_; intro Kzzr10 zzr10)
    | (with_reducible refine awp_seq_l (a := .region 9 _ _) [1, 6, 7, 45] ?_; intro Kzzr9 zzr9)
    | (with_reducible refine awp_seq_l (a := .region 8 _ _) [1, 6, 7] ?_; intro Kzzr8 zzr8)
    | (with_reducible refine awp_seq_l (a := .region 7 _ _) [1, 6] ?_; intro Kzzr7 zzr7)
    | (with_reducible refine awp_seq_l (a := .region 6 _ _) [0, 1, 6] ?_; intro Kzzr6 zzr6)
    | (with_reducible refine awp_seq_l (a := .block 0 _) [0, 1] ?_; intro Kzzb0 zzb0)
    | (with_reducible refine awp_seq_l (a := .region 3 _ _) [4, 5] ?_; intro Kzzr3 zzr3)
    | (with_reducible refine awp_seq_l (a := .region 5 _ _) [4, 5] ?_; intro Kzzr5 zzr5)
    | (with_reducible refine awp_seq_l (a := .region 4 _ _) [0, 1, 16] ?_; intro Kzzr4 zzr4)
    | (with_reducible refine awp_seq_l (a := .region 2 _ _) [0, 1, 13] ?_; intro Kzzr2 zzr2)
    | (with_reducible refine awp_seq_l (a := .region 1 _ _) [0, 1] ?_; intro Kzzr1 zzr1)
    | (with_reducible refine awp_seq_l (a := .region 0 _ _) [0, 1] ?_; intro Kzzr0 zzr0)
    | (with_reducible refine awp_seq_k ?_; intro K hK)
    | (with_reducible refine awp_region_a ?_; intro all hall K hK)
    | (with_reducible refine awp_draw_a (id := 13) ?_ ?_; kernel_rfl; intro all hall K hK)
    | (with_reducible refine awp_draw_n ?_ ?_; kernel_rfl; intro all hall K hK)
    | (with_reducible refine Chk_i ?_ ?_)
    | (with_reducible refine keysC_i ?_; kernel_rfl)
    | (with_reducible first | refine awp_block_i ?_ | refine awp_skip_i ?_ | refine awp_ret_i ?_ | refine awp_exit_i ?_ | refine thenP_ret_i ?_ | refine thenP_exit_i ?_ | refine lpP_ret_i ?_ | refine lpP_exit_i ?_ | refine unrP_succ_i ?_ | refine unrP_ret_i ?_ | refine unrP_exit_i ?_ | refine blockP_normal_i ?_ | refine blockP_ret_i ?_)
    | (with_reducible refine blockP_exit_i ?_; simp only [↓reduceIte, Nat.reduceEqDiff])
    | with_reducible refine lpP_normal_i ?_)
  all_goals (try clear zzr0; try clear Kzzr0)
  all_goals (try clear zzr1; try clear Kzzr1)
  all_goals (try clear zzr2; try clear Kzzr2)
  all_goals (try clear zzr4; try clear Kzzr4)
  all_goals (try clear zzr5; try clear Kzzr5)
  all_goals (try clear zzr3; try clear Kzzr3)
  all_goals (try clear zzb0; try clear Kzzb0)
  all_goals (try clear zzr6; try clear Kzzr6)
  all_goals (try clear zzr7; try clear Kzzr7)
  all_goals (try clear zzr8; try clear Kzzr8)
  all_goals (try clear zzr9; try clear Kzzr9)
  all_goals (try clear zzr10; try clear Kzzr10)
  all_goals (try clear zzr11; try clear Kzzr11)
  all_goals (try clear zzsr11; try clear Kzzsr11)
  all_goals (try clear zzb2; try clear Kzzb2)
  all_goals (try clear zzsr10; try clear Kzzsr10)
  all_goals (try clear zzsr8; try clear Kzzsr8)
  all_goals (try clear zzr15; try clear Kzzr15)
  all_goals (try (rcases s1 with ⟨i, o⟩))
  all_goals (try dsimp only at *)
  all_goals (try simp only [inR])
  all_goals (try omega)
  · refine ⟨by omega, by omega, h0.len, h0.lm, trivial, ?_⟩
    rw [show N - 1 + 1 = N by omega, List.drop_of_length_le (by rw [h0.len]; exact Nat.le_refl _), h0.top]
    simp [val]
  · (refine ent_ok [(560, 560)] rfl ?_ ?_ <;> simp only [memLe, slotsLe, AvLe, lk, ↓reduceIte, Nat.reduceEqDiff, Option.isSome_some, and_self, and_true, true_and, reduceCtorEq, List.map_nil, List.map_cons, Option.some.injEq, AV.v.injEq, Value.int.injEq, Value.bool.injEq, AV.rd.injEq, AV.ow.injEq, AV.al.injEq, AV.ref.injEq] <;> omega)
  · have e0 : ((i : Int) - 1).toNat = i - 1 := by omega
    have e1 := take_getD hs1.2.2.2.2.1 (i := i) (by omega)
    have e2 := take_getD hs1.2.2.2.2.1 (i := i - 1) (by omega)
    rw [e0, e1, e2, shl_word (lim_get h0.lm) (lim_get h0.lm) (by omega)]
    have h3 := shl_step (z := (o0.getD (i - 1) 0).toNat / 2 ^ (64 - s)) h0.lm (by omega) (by rw [hs1.2.2.1, h0.len]) (show s ≤ 64 by omega) hs1.2.2.2.2.2
    have h4 := or_lim (o0.getD i 0 * 2 ^ s % 18446744073709551616) (o0.getD (i - 1) 0 / 2 ^ (64 - s))
    rw [shl_word (lim_get h0.lm) (lim_get h0.lm) (by omega)] at h4
    refine ⟨(i - 1, o.set i (((o0.getD i 0).toNat * 2 ^ s % 18446744073709551616 + (o0.getD (i - 1) 0).toNat / 2 ^ (64 - s) : Nat) : Int)), by (refine ent_ok [(560, 560)] rfl ?_ ?_ <;> simp only [memLe, slotsLe, AvLe, lk, ↓reduceIte, Nat.reduceEqDiff, Option.isSome_some, and_self, and_true, true_and, reduceCtorEq, List.map_nil, List.map_cons, Option.some.injEq, AV.v.injEq, Value.int.injEq, Value.bool.injEq, AV.rd.injEq, AV.ow.injEq, AV.al.injEq, AV.ref.injEq] <;> omega), ⟨by dsimp only; omega, by dsimp only; omega, by simp [hs1.2.2.1], lim_set hs1.2.2.2.1 h4 i, ?_, ?_⟩, by dsimp only; omega⟩
    · dsimp only
      rw [show i - 1 + 1 = i by omega, take_set_lt (Nat.le_refl _)]
      exact take_le_of hs1.2.2.2.2.1 (by omega)
    · dsimp only
      rw [show i - 1 + 1 = i by omega]
      exact h3
  all_goals first
    | (have hi : i = w := by omega
       subst hi
       have h5 := shl_last h0.lm (by omega) (by rw [hs1.2.2.1, h0.len]) (show s ≤ 64 by omega) hs1.2.2.2.2.1 hs1.2.2.2.2.2
       have h6 := sz_le (o.set i (o.getD i 0 * 2 ^ s % 18446744073709551616))
       have h7 : (o.set i (o.getD i 0 * 2 ^ s % 18446744073709551616)).length = N := by simp [hs1.2.2.1]
       have h8 := lim_set hs1.2.2.2.1 h5.2.2 i
       have h7a := hs1.2.2.1
       have h9 := shl_val (s := s) h0 h7 (by rw [take_set_lt (Nat.le_refl _)]; exact take_le_of hs1.2.2.2.2.1 (by omega)) h5.2.1
       first
         | omega
         | (rw [take_sz h8, h9, hk]; done)
         | (rw [take_sz h8, h9, hk]; all_goals (first | rfl | exact ⟨rfl, rfl⟩)))
    | (have h6 := sz_le o0
       have h7 := h0.len
       omega)
    | (have hs0 : s = 0 := by omega
       rw [take_sz h0.lm, h0.vl, hk, hs0, Nat.add_zero, Nat.mul_comm]; done)
    | (have hs0 : s = 0 := by omega
       refine ⟨?_, rfl⟩
       rw [take_sz h0.lm, h0.vl, hk, hs0, Nat.add_zero, Nat.mul_comm])
theorem sound_72 : Sound Try.prog 72 .body (norm s72) := by
  refine sound_norm (sound_body Try.func72 (show Try.f72.body = some (code Try.f72) from rfl) (by kernel_rfl) tysOk G72_ok (drawOk_ok (by kernel_rfl) tysOk G72_ok) (by kernel_rfl) fun ds p r hs hp => ?_)
  unfold s72 at hs
  split at hs
  · cases hs; exact ⟨Nat.le_of_ble_eq_true (by kernel_rfl), w72 _ _ hp⟩
  · cases hs
end Go.Proofs.AMT
set_option maxRecDepth 20000
namespace Go.Proofs.AMT
open Go.AM Go.AM.LN
attribute [local congr] bindO_congr bindS_congr bindG_congr awpOps_congr aOne_congr awp_congr aCond_congr awpD_congr dOne_congr keysB_congr nOne_congr thenP_congr blockP_congr Chk_congr Brk_congr
noncomputable def s45 : CSpec := fun ds => match ds with
  | [.sl .u64 a, .sl .u64 b, .v (.int .i64 n)] => some ((limbs (val a) = a ∧ lim a) ∧ (limbs (val b) = b ∧ lim b) ∧ (a.length ≤ 90000000 ∧ b.length ≤ 90000000) ∧ (0 ≤ n → (sz a : Int) + (n + 63) / 64 ≤ 2000) ∧ (n < 0 → (sz b : Int) + (-n + 63) / 64 ≤ 2000) ∧ -9000000 < n ∧ n < 9000000, .many [.view .u64 (limbs (val a * 2 ^ n.toNat)), .view .u64 (limbs (val b * 2 ^ (-n).toNat))])
  | _ => none
theorem s45_eq (a : List Int) (b : List Int) (n : Int) : norm s45 [.sl .u64 a, .sl .u64 b, .v (.int .i64 n)] = some ((limbs (val a) = a ∧ lim a) ∧ (limbs (val b) = b ∧ lim b) ∧ (a.length ≤ 90000000 ∧ b.length ≤ 90000000) ∧ (0 ≤ n → (sz a : Int) + (n + 63) / 64 ≤ 2000) ∧ (n < 0 → (sz b : Int) + (-n + 63) / 64 ≤ 2000) ∧ -9000000 < n ∧ n < 9000000, .many [.view .u64 (limbs (val a * 2 ^ n.toNat)), .view .u64 (limbs (val b * 2 ^ (-n).toNat))]) := rfl
theorem s45_nil1  (b : List Int) (n : Int) : norm s45 [.v (.slice none 0 0), .sl .u64 b, .v (.int .i64 n)] = some ((limbs (val ([] : List Int)) = ([] : List Int) ∧ lim ([] : List Int)) ∧ (limbs (val b) = b ∧ lim b) ∧ (([] : List Int).length ≤ 90000000 ∧ b.length ≤ 90000000) ∧ (0 ≤ n → (sz ([] : List Int) : Int) + (n + 63) / 64 ≤ 2000) ∧ (n < 0 → (sz b : Int) + (-n + 63) / 64 ≤ 2000) ∧ -9000000 < n ∧ n < 9000000, .many [.view .u64 (limbs (val ([] : List Int) * 2 ^ n.toNat)), .view .u64 (limbs (val b * 2 ^ (-n).toNat))]) := rfl
theorem s45_nil2 (a : List Int)  (n : Int) : norm s45 [.sl .u64 a, .v (.slice none 0 0), .v (.int .i64 n)] = some ((limbs (val a) = a ∧ lim a) ∧ (limbs (val ([] : List Int)) = ([] : List Int) ∧ lim ([] : List Int)) ∧ (a.length ≤ 90000000 ∧ ([] : List Int).length ≤ 90000000) ∧ (0 ≤ n → (sz a : Int) + (n + 63) / 64 ≤ 2000) ∧ (n < 0 → (sz ([] : List Int) : Int) + (-n + 63) / 64 ≤ 2000) ∧ -9000000 < n ∧ n < 9000000, .many [.view .u64 (limbs (val a * 2 ^ n.toNat)), .view .u64 (limbs (val ([] : List Int) * 2 ^ (-n).toNat))]) := rfl
theorem s45_nil3   (n : Int) : norm s45 [.v (.slice none 0 0), .v (.slice none 0 0), .v (.int .i64 n)] = some ((limbs (val ([] : List Int)) = ([] : List Int) ∧ lim ([] : List Int)) ∧ (limbs (val ([] : List Int)) = ([] : List Int) ∧ lim ([] : List Int)) ∧ (([] : List Int).length ≤ 90000000 ∧ ([] : List Int).length ≤ 90000000) ∧ (0 ≤ n → (sz ([] : List Int) : Int) + (n + 63) / 64 ≤ 2000) ∧ (n < 0 → (sz ([] : List Int) : Int) + (-n + 63) / 64 ≤ 2000) ∧ -9000000 < n ∧ n < 9000000, .many [.view .u64 (limbs (val ([] : List Int) * 2 ^ n.toNat)), .view .u64 (limbs (val ([] : List Int) * 2 ^ (-n).toNat))]) := rfl
noncomputable def G45 : Gam := [(72, .body, norm s72)]
theorem G45_ok : GamOk Try.prog G45 := gamOk_cons sound_72 gamOk_nil
theorem k45_72 : lk G45 72 = some (.body, norm s72) := rfl
set_option maxHeartbeats 20000000 in
theorem w45 (a : List Int) (b : List Int) (n : Int) (hp : (limbs (val a) = a ∧ lim a) ∧ (limbs (val b) = b ∧ lim b) ∧ (a.length ≤ 90000000 ∧ b.length ≤ 90000000) ∧ (0 ≤ n → (sz a : Int) + (n + 63) / 64 ≤ 2000) ∧ (n < 0 → (sz b : Int) + (-n + 63) / 64 ≤ 2000) ∧ -9000000 < n ∧ n < 9000000) : awp ty G45 (code Try.f45) (retP ty Try.f45.results.toList (.many [.view .u64 (limbs (val a * 2 ^ n.toNat)), .view .u64 (limbs (val b * 2 ^ (-n).toNat))])) (entry 0 [.sl .u64 a, .sl .u64 b, .v (.int .i64 n)]) [] := by
  unfold code
  simp only [Try.f45, Option.getD_some]
  have en : 0 - n = -n := by omega
  all_goals repeat' (first
    | ((first
       | (with_reducible refine ops_k ?_; intro X hX)
       | (with_reducible refine opsN_k ?_; intro X hX)
       | (with_reducible show awp _ _ _ _ (keepL _ _) _)
       | with_reducible refine awp_cond_k ?_
       | (with_reducible refine Brk_i ?_ ?_ <;> intro hb <;> (try simp only [hb]) <;> have hq := hb <;> try simp only [decide_eq_true_eq, decide_eq_false_iff_not, gt_iff_lt, ge_iff_le, Int.not_lt, Int.not_le, beq_iff_eq, beq_eq_false_iff_ne, Bool.not_eq_true', Bool.not_eq_false', Bool.and_eq_true, Bool.or_eq_true, Bool.and_eq_false_imp, Bool.or_eq_false_iff, ne_eq, Classical.not_not] at hq)
       | with_reducible refine retP_ret_i ?_
       | with_reducible refine retP_normal_i ?_
       | (with_reducible (show bindG _ _ _ _ _); simp only [hall])) <;> try simp only [Go.AM.S1, Go.AM.S2, Go.AM.S3, Go.AM.S4, Go.AM.S5, Go.AM.S6, Go.AM.S7, Go.AM.S8, Go.AM.S9, Nat.reduceAdd, Nat.reduceMul, Nat.reduceSub, ↓reduceIte, Nat.reduceEqDiff, Nat.reduceLT, Nat.reduceLeDiff, reduceCtorEq, Int.reduceBEq, Int.reduceBNe, Nat.reduceBEq, Int.reduceEq, Int.reduceToNat, Int.reduceLE, Int.reduceLT, Nat.reduceDiv, Int.reduceAdd, Int.reduceSub, Int.reduceMul, Int.reduceNeg, Int.reduceGT, Int.reduceGE, Nat.reduceMod, k45_72, s72_eq, s72_nil1, ty_3, ty_26, ty_42, en])
    | (with_reducible refine hX _ _ ?_; clear hX X)
    | (with_reducible refine ops_nil_i ?_; try clear hall all)
    | (with_reducible refine opsN_nil_i ?_; try clear hall all)
    | (with_reducible refine hK _ _ ?_; clear hK K)
    | with_reducible refine thenP_normal_i ?_
    | (with_reducible refine zzr4 _ _ ?_; try clear zzr4 Kzzr4)
    | (with_reducible refine zzsr1 _ _ ?_; try clear zzsr1 Kzzsr1)
    | (with_reducible refine zzr1 _ _ ?_; try clear zzr1 Kzzr1)
    | (with_reducible refine zzr0 _ _ ?_; try clear zzr0 Kzzr0)
    | (with_reducible refine awp_seq_l (a := .region 4 _ _) [6, 7] ?_; intro Kzzr4 zzr4)
    | (with_reducible refine awp_seq_l (a := .seq (.region 1 _ _) _) [0, 1] ?_; intro Kzzsr1 zzsr1)
    | (with_reducible refine awp_seq_l (a := .region 1 _ _) [0, 1, 2, 9] ?_; intro Kzzr1 zzr1)
    | (with_reducible refine awp_seq_l (a := .region 0 _ _) [0, 1, 2] ?_; intro Kzzr0 zzr0)
    | (with_reducible refine awp_seq_k ?_; intro K hK)
    | (with_reducible refine awp_region_a ?_; intro all hall K hK)
    | (with_reducible refine awp_draw_n ?_ ?_; kernel_rfl; intro all hall K hK)
    | (with_reducible refine Chk_i ?_ ?_)
    | (with_reducible refine keysC_i ?_; kernel_rfl)
    | (with_reducible first | refine awp_block_i ?_ | refine awp_skip_i ?_ | refine awp_ret_i ?_ | refine awp_exit_i ?_ | refine thenP_ret_i ?_ | refine thenP_exit_i ?_ | refine lpP_ret_i ?_ | refine lpP_exit_i ?_ | refine unrP_succ_i ?_ | refine unrP_ret_i ?_ | refine unrP_exit_i ?_ | refine blockP_normal_i ?_ | refine blockP_ret_i ?_)
    | (with_reducible refine blockP_exit_i ?_; simp only [↓reduceIte, Nat.reduceEqDiff])
    | with_reducible refine lpP_normal_i ?_)
  all_goals (try clear zzr0; try clear Kzzr0)
  all_goals (try clear zzr1; try clear Kzzr1)
  all_goals (try clear zzsr1; try clear Kzzsr1)
  all_goals (try clear zzr4; try clear Kzzr4)
  all_goals (try simp only [inR])
  all_goals first
    | omega
    | exact ⟨⟨hp.1.2, by omega⟩, by omega, hp.2.2.2.1 (by omega)⟩
    | exact ⟨⟨hp.2.1.2, by omega⟩, by omega, hp.2.2.2.2.1 (by omega)⟩
    | (rw [show (-n).toNat = 0 by omega, Nat.pow_zero, Nat.mul_one, hp.2.1.1]; done)
    | (rw [show (-n).toNat = 0 by omega, Nat.pow_zero, Nat.mul_one, hp.2.1.1]; exact ⟨rfl, rfl⟩)
    | (rw [show n.toNat = 0 by omega, Nat.pow_zero, Nat.mul_one, hp.1.1]; done)
    | (rw [show n.toNat = 0 by omega, Nat.pow_zero, Nat.mul_one, hp.1.1]; exact ⟨rfl, rfl⟩)
    | skip
theorem sound_45 : Sound Try.prog 45 .body (norm s45) := by
  refine sound_norm (sound_body Try.func45 (show Try.f45.body = some (code Try.f45) from rfl) (by kernel_rfl) tysOk G45_ok (drawOk_ok (by kernel_rfl) tysOk G45_ok) (by kernel_rfl) fun ds p r hs hp => ?_)
  unfold s45 at hs
  split at hs
  · cases hs; exact ⟨Nat.le_of_ble_eq_true (by kernel_rfl), w45 _ _ _ hp⟩
  · cases hs
end Go.Proofs.AMT
set_option maxRecDepth 20000
namespace Go.Proofs.AMT
open Go.AM Go.AM.LN
attribute [local congr] bindO_congr bindS_congr bindG_congr awpOps_congr aOne_congr awp_congr aCond_congr awpD_congr dOne_congr keysB_congr nOne_congr thenP_congr blockP_congr Chk_congr Brk_congr
noncomputable def s46 : CSpec := fun ds => match ds with
  | [.sl .u64 a, .sl .u64 b] => some ((lim a ∧ a.length ≤ 100000000) ∧ lim b ∧ b.length ≤ 100000000, .one (.v (.int .i64 (cmpI (val a) (val b)))))
  | _ => none
theorem s46_eq (a : List Int) (b : List Int) : norm s46 [.sl .u64 a, .sl .u64 b] = some ((lim a ∧ a.length ≤ 100000000) ∧ lim b ∧ b.length ≤ 100000000, .one (.v (.int .i64 (cmpI (val a) (val b))))) := rfl
theorem s46_nil1  (b : List Int) : norm s46 [.v (.slice none 0 0), .sl .u64 b] = some ((lim ([] : List Int) ∧ ([] : List Int).length ≤ 100000000) ∧ lim b ∧ b.length ≤ 100000000, .one (.v (.int .i64 (cmpI (val ([] : List Int)) (val b))))) := rfl
theorem s46_nil2 (a : List Int)  : norm s46 [.sl .u64 a, .v (.slice none 0 0)] = some ((lim a ∧ a.length ≤ 100000000) ∧ lim ([] : List Int) ∧ ([] : List Int).length ≤ 100000000, .one (.v (.int .i64 (cmpI (val a) (val ([] : List Int)))))) := rfl
theorem s46_nil3   : norm s46 [.v (.slice none 0 0), .v (.slice none 0 0)] = some ((lim ([] : List Int) ∧ ([] : List Int).length ≤ 100000000) ∧ lim ([] : List Int) ∧ ([] : List Int).length ≤ 100000000, .one (.v (.int .i64 (cmpI (val ([] : List Int)) (val ([] : List Int)))))) := rfl
noncomputable def G46 : Gam := [(71, .body, norm s71)]
theorem G46_ok : GamOk Try.prog G46 := gamOk_cons sound_71 gamOk_nil
theorem k46_71 : lk G46 71 = some (.body, norm s71) := rfl
set_option maxHeartbeats 20000000 in
theorem w46 (a : List Int) (b : List Int) (hp : (lim a ∧ a.length ≤ 100000000) ∧ lim b ∧ b.length ≤ 100000000) : awp ty G46 (code Try.f46) (retP ty Try.f46.results.toList (.one (.v (.int .i64 (cmpI (val a) (val b)))))) (entry 0 [.sl .u64 a, .sl .u64 b]) [] := by
  unfold code
  simp only [Try.f46, Option.getD_some]
  have za := sz_le a
  have zb := sz_le b
  have ya := len_limbs_sz hp.1.1
  have yb := len_limbs_sz hp.2.1
  have la := lim_limbs (val a)
  have lb := lim_limbs (val b)
  all_goals repeat' (first
    | ((first
       | (with_reducible refine ops_k ?_; intro X hX)
       | (with_reducible refine opsN_k ?_; intro X hX)
       | (with_reducible show awp _ _ _ _ (keepL _ _) _)
       | with_reducible refine awp_cond_k ?_
       | (with_reducible refine Brk_i ?_ ?_ <;> intro hb <;> (try simp only [hb]) <;> have hq := hb <;> try simp only [decide_eq_true_eq, decide_eq_false_iff_not, gt_iff_lt, ge_iff_le, Int.not_lt, Int.not_le, beq_iff_eq, beq_eq_false_iff_ne, Bool.not_eq_true', Bool.not_eq_false', Bool.and_eq_true, Bool.or_eq_true, Bool.and_eq_false_imp, Bool.or_eq_false_iff, ne_eq, Classical.not_not] at hq)
       | with_reducible refine retP_ret_i ?_
       | with_reducible refine retP_normal_i ?_
       | (with_reducible (show bindG _ _ _ _ _); simp only [hall])) <;> try simp only [Go.AM.S1, Go.AM.S2, Go.AM.S3, Go.AM.S4, Go.AM.S5, Go.AM.S6, Go.AM.S7, Go.AM.S8, Go.AM.S9, Nat.reduceAdd, Nat.reduceMul, Nat.reduceSub, ↓reduceIte, Nat.reduceEqDiff, Nat.reduceLT, Nat.reduceLeDiff, reduceCtorEq, Int.reduceBEq, Int.reduceBNe, Nat.reduceBEq, Int.reduceEq, Int.reduceToNat, Int.reduceLE, Int.reduceLT, Nat.reduceDiv, Int.reduceAdd, Int.reduceSub, Int.reduceMul, Int.reduceNeg, Int.reduceGT, Int.reduceGE, Nat.reduceMod, k46_71, s71_eq, s71_nil1, ty_3, ty_26, ty_42, take_sz hp.1.1, take_sz hp.2.1])
    | (with_reducible refine hX _ _ ?_; clear hX X)
    | (with_reducible refine ops_nil_i ?_; try clear hall all)
    | (with_reducible refine opsN_nil_i ?_; try clear hall all)
    | (with_reducible refine hK _ _ ?_; clear hK K)
    | with_reducible refine thenP_normal_i ?_
    | (with_reducible refine zzr13 _ _ ?_; try clear zzr13 Kzzr13)
    | (with_reducible refine zzsr6 _ _ ?_; try clear zzsr6 Kzzsr6)
    | (with_reducible refine zzb1 _ _ ?_; try clear zzb1 Kzzb1)
    | (with_reducible refine zzr12 _ _ ?_; try clear zzr12 Kzzr12)
    | (with_reducible refine zzsr10 _ _ ?_; try clear zzsr10 Kzzsr10)
    | (with_reducible refine zzr11 _ _ ?_; try clear zzr11 Kzzr11)
    | (with_reducible refine zzr10 _ _ ?_; try clear zzr10 Kzzr10)
    | (with_reducible refine zzr9 _ _ ?_; try clear zzr9 Kzzr9)
    | (with_reducible refine zzsr7 _ _ ?_; try clear zzsr7 Kzzsr7)
    | (with_reducible refine zzr7 _ _ ?_; try clear zzr7 Kzzr7)
    | (with_reducible refine zzr6 _ _ ?_; try clear zzr6 Kzzr6)
    | (with_reducible refine zzsr2 _ _ ?_; try clear zzsr2 Kzzsr2)
    | (with_reducible refine zzr5 _ _ ?_; try clear zzr5 Kzzr5)
    | (with_reducible refine zzsr3 _ _ ?_; try clear zzsr3 Kzzsr3)
    | (with_reducible refine zzr4 _ _ ?_; try clear zzr4 Kzzr4)
    | (with_reducible refine zzr3 _ _ ?_; try clear zzr3 Kzzr3)
    | (with_reducible refine zzr2 _ _ ?_; try clear zzr2 Kzzr2)
    | (with_reducible refine zzr1 _ _ ?_; try clear zzr1 Kzzr1)
    | (with_reducible refine zzr0 _ _ ?_; try clear zzr0 Kzzr0)
    | (with_reducible refine awp_lp (σ := Nat) (fun n => n ≤ (limbs (val a)).length ∧ (limbs (val a)).drop n = (limbs (val b)).drop n) (fun n => [(0, .rd .u64 (limbs (val a))), (1, .rd .u64 (limbs (val b))), (5, .v (.int .i64 ((n : Int) - 1)))]) (fun _ => []) (fun n => n) (limbs (val a)).length ?_ ?_ (fun s hs => ?_))
    | (with_reducible refine awp_seq_l (a := .region 13 _ _) [4] ?_; intro Kzzr13 zzr13)
    | (with_reducible refine awp_seq_l (a := .seq (.region 6 _ _) _) [] ?_; intro Kzzsr6 zzsr6)
    | (with_reducible refine awp_seq_l (a := .block 1 _) [0, 1, 5] ?_; intro Kzzb1 zzb1)
    | (with_reducible refine awp_seq_l (a := .region 12 _ _) [4] ?_; intro Kzzr12 zzr12)
    | (with_reducible refine awp_seq_l (a := .seq (.region 10 _ _) _) [] ?_; intro Kzzsr10 zzsr10)
    | (with_reducible refine awp_seq_l (a := .region 11 _ _) [4] ?_; intro Kzzr11 zzr11)
    | (with_reducible refine awp_seq_l (a := .region 10 _ _) [48] ?_; intro Kzzr10 zzr10)
    | (with_reducible refine awp_seq_l (a := .region 9 _ _) [0, 1, 5, 39] ?_; intro Kzzr9 zzr9)
    | (with_reducible refine awp_seq_l (a := .seq (.region 7 _ _) _) [0, 1, 5] ?_; intro Kzzsr7 zzsr7)
    | (with_reducible refine awp_seq_l (a := .region 7 _ _) [0, 1, 5, 28] ?_; intro Kzzr7 zzr7)
    | (with_reducible refine awp_seq_l (a := .region 6 _ _) [0, 1, 5] ?_; intro Kzzr6 zzr6)
    | (with_reducible refine awp_seq_l (a := .seq (.region 2 _ _) _) [0, 1] ?_; intro Kzzsr2 zzsr2)
    | (with_reducible refine awp_seq_l (a := .region 5 _ _) [4] ?_; intro Kzzr5 zzr5)
    | (with_reducible refine awp_seq_l (a := .seq (.region 3 _ _) _) [] ?_; intro Kzzsr3 zzsr3)
    | (with_reducible refine awp_seq_l (a := .region 4 _ _) [4] ?_; intro Kzzr4 zzr4)
    | (with_reducible refine awp_seq_l (a := .region 3 _ _) [23] ?_; intro Kzzr3 zzr3)
    | (with_reducible refine awp_seq_l (a := .region 2 _ _) [0, 1, 18] ?_; intro Kzzr2 zzr2)
    | (with_reducible refine awp_seq_l (a := .region 1 _ _) [0, 1] ?_; intro Kzzr1 zzr1)
    | (with_reducible refine awp_seq_l (a := .region 0 _ _) [0, 1] ?_; intro Kzzr0 zzr0)
    | (with_reducible refine awp_seq_k ?_; intro K hK)
    | (with_reducible refine awp_region_a ?_; intro all hall K hK)
    | (with_reducible refine awp_draw_n ?_ ?_; kernel_rfl; intro all hall K hK)
    | (with_reducible refine Chk_i ?_ ?_)
    | (with_reducible refine keysC_i ?_; kernel_rfl)
    | (with_reducible first | refine awp_block_i ?_ | refine awp_skip_i ?_ | refine awp_ret_i ?_ | refine awp_exit_i ?_ | refine thenP_ret_i ?_ | refine thenP_exit_i ?_ | refine lpP_ret_i ?_ | refine lpP_exit_i ?_ | refine unrP_succ_i ?_ | refine unrP_ret_i ?_ | refine unrP_exit_i ?_ | refine blockP_normal_i ?_ | refine blockP_ret_i ?_)
    | (with_reducible refine blockP_exit_i ?_; simp only [↓reduceIte, Nat.reduceEqDiff])
    | with_reducible refine lpP_normal_i ?_)
  all_goals (try clear zzr0; try clear Kzzr0)
  all_goals (try clear zzr1; try clear Kzzr1)
  all_goals (try clear zzr2; try clear Kzzr2)
  all_goals (try clear zzr3; try clear Kzzr3)
  all_goals (try clear zzr4; try clear Kzzr4)
  all_goals (try clear zzsr3; try clear Kzzsr3)
  all_goals (try clear zzr5; try clear Kzzr5)
  all_goals (try clear zzsr2; try clear Kzzsr2)
  all_goals (try clear zzr6; try clear Kzzr6)
  all_goals (try clear zzr7; try clear Kzzr7)
  all_goals (try clear zzsr7; try clear Kzzsr7)
  all_goals (try clear zzr9; try clear Kzzr9)
  all_goals (try clear zzr10; try clear Kzzr10)
  all_goals (try clear zzr11; try clear Kzzr11)
  all_goals (try clear zzsr10; try clear Kzzsr10)
  all_goals (try clear zzr12; try clear Kzzr12)
  all_goals (try clear zzb1; try clear Kzzb1)
  all_goals (try clear zzsr6; try clear Kzzsr6)
  all_goals (try clear zzr13; try clear Kzzr13)
  all_goals (try simp only [inR])
  all_goals (try omega)
  · have h := len_lt (x := val a) (y := val b) (by omega)
    rw [cmpI_lt h]
  · have h := len_lt (x := val b) (y := val a) (by omega)
    rw [cmpI_gt h]
  · exact ⟨Nat.le_refl _, by rw [List.drop_length, List.drop_eq_nil_of_le (by omega)]⟩
  · exact Ent.refl _ _
  · have e : ((s : Int) - 1).toNat = s - 1 := by omega
    rw [e] at hq
    have h := cmp_lt la lb (i := s - 1) (by omega) (by omega) (by rw [show s - 1 + 1 = s by omega]; exact hs.2) hq
    rw [val_limbs, val_limbs] at h
    rw [cmpI_lt h]
  · have e : ((s : Int) - 1).toNat = s - 1 := by omega
    simp only [e] at *
    have h := cmp_lt lb la (i := s - 1) (by omega) (by omega) (by rw [show s - 1 + 1 = s by omega]; exact hs.2.symm) (by omega)
    rw [val_limbs, val_limbs] at h
    rw [cmpI_gt h]
  · refine ⟨s - 1, by (refine ent_ok [] rfl ?_ ?_ <;> simp only [memLe, slotsLe, AvLe, lk, ↓reduceIte, Nat.reduceEqDiff, Option.isSome_some, and_self, and_true, true_and, reduceCtorEq, List.map_nil, List.map_cons, Option.some.injEq, AV.v.injEq, Value.int.injEq, Value.bool.injEq, AV.rd.injEq, AV.ow.injEq, AV.al.injEq, AV.ref.injEq] <;> omega), ⟨by omega, ?_⟩, by omega⟩
    have e : ((s : Int) - 1).toNat = s - 1 := by omega
    rw [e] at hq
    exact drop_step (by omega) (by omega) (by rw [show s - 1 + 1 = s by omega]; exact hs.2) hq
  · have h0 : s = 0 := by omega
    subst h0
    have := limbs_inj (x := val a) (y := val b) (by simpa using hs.2)
    rw [cmpI_eq this]
theorem sound_46 : Sound Try.prog 46 .body (norm s46) := by
  refine sound_norm (sound_body Try.func46 (show Try.f46.body = some (code Try.f46) from rfl) (by kernel_rfl) tysOk G46_ok (drawOk_ok (by kernel_rfl) tysOk G46_ok) (by kernel_rfl) fun ds p r hs hp => ?_)
  unfold s46 at hs
  split at hs
  · cases hs; exact ⟨Nat.le_of_ble_eq_true (by kernel_rfl), w46 _ _ hp⟩
  · cases hs
end Go.Proofs.AMT
set_option maxRecDepth 20000
namespace Go.Proofs.AMT
open Go.AM Go.AM.LN
attribute [local congr] bindO_congr bindS_congr bindG_congr awpOps_congr aOne_congr awp_congr aCond_congr awpD_congr dOne_congr keysB_congr nOne_congr thenP_congr blockP_congr Chk_congr Brk_congr
noncomputable def s73 : CSpec := fun ds => match ds with
  | [.v (.int .i64 n), .v (.bool s)] => some (1 ≤ n ∧ n ≤ 6, .many [.v (.agg #[.int .u64 (w4 (packS n 1 s false (2 ^ (fp n).toNat - 1) (fe n + 1 - fp n)) 0), .int .u64 (w4 (packS n 1 s false (2 ^ (fp n).toNat - 1) (fe n + 1 - fp n)) 1), .int .u64 (w4 (packS n 1 s false (2 ^ (fp n).toNat - 1) (fe n + 1 - fp n)) 2), .int .u64 (w4 (packS n 1 s false (2 ^ (fp n).toNat - 1) (fe n + 1 - fp n)) 3)]), .v (.int .i64 0)])
  | _ => none
theorem s73_eq (n : Int) (s : Bool) : norm s73 [.v (.int .i64 n), .v (.bool s)] = some (1 ≤ n ∧ n ≤ 6, .many [.v (.agg #[.int .u64 (w4 (packS n 1 s false (2 ^ (fp n).toNat - 1) (fe n + 1 - fp n)) 0), .int .u64 (w4 (packS n 1 s false (2 ^ (fp n).toNat - 1) (fe n + 1 - fp n)) 1), .int .u64 (w4 (packS n 1 s false (2 ^ (fp n).toNat - 1) (fe n + 1 - fp n)) 2), .int .u64 (w4 (packS n 1 s false (2 ^ (fp n).toNat - 1) (fe n + 1 - fp n)) 3)]), .v (.int .i64 0)]) := rfl
noncomputable def G73 : Gam := [(23, .body, norm s23), (42, .body, norm s42), (63, .body, norm s63)]
theorem G73_ok : GamOk Try.prog G73 := gamOk_cons sound_23 (gamOk_cons sound_42 (gamOk_cons sound_63 gamOk_nil))
theorem k73_23 : lk G73 23 = some (.body, norm s23) := rfl
theorem k73_42 : lk G73 42 = some (.body, norm s42) := rfl
theorem k73_63 : lk G73 63 = some (.body, norm s63) := rfl
set_option maxHeartbeats 20000000 in
theorem w73 (n : Int) (s : Bool) (hp : 1 ≤ n ∧ n ≤ 6) : awp ty G73 (code Try.f73) (retP ty Try.f73.results.toList (.many [.v (.agg #[.int .u64 (w4 (packS n 1 s false (2 ^ (fp n).toNat - 1) (fe n + 1 - fp n)) 0), .int .u64 (w4 (packS n 1 s false (2 ^ (fp n).toNat - 1) (fe n + 1 - fp n)) 1), .int .u64 (w4 (packS n 1 s false (2 ^ (fp n).toNat - 1) (fe n + 1 - fp n)) 2), .int .u64 (w4 (packS n 1 s false (2 ^ (fp n).toNat - 1) (fe n + 1 - fp n)) 3)]), .v (.int .i64 0)])) (entry 0 [.v (.int .i64 n), .v (.bool s)]) [] := by
  unfold code
  simp only [Try.f73, Option.getD_some]
  obtain ⟨F1, F2, F3, F4, F5, F6, F7, F8, F9, F10, F11⟩ := bfmt hp
  have hI := infoV_in (n := n) (by omega)
  have hO : okB n 0 = true := by rw [okB0, decide_eq_true hp]
  have hM := V4_w4 (n := 2 ^ (fp n).toNat - 1) (by
    have : 2 ^ (fp n).toNat ≤ 2 ^ 256 := Nat.pow_le_pow_right (by omega) (by omega)
    have := Nat.two_pow_pos (fp n).toNat
    omega)
  have hbl := blen_ones (fp n).toNat
  all_goals repeat' (first
    | ((first
       | (with_reducible refine ops_k ?_; intro X hX)
       | (with_reducible refine opsN_k ?_; intro X hX)
       | (with_reducible show awp _ _ _ _ (keepL _ _) _)
       | (with_reducible refine hX _ _ _ _ ?_; clear hX X)
       | (with_reducible refine opsD_k ?_; intro X hX)
       | with_reducible refine awp_cond_k ?_
       | (with_reducible refine Brk_i ?_ ?_ <;> intro hb <;> (try simp only [hb]) <;> have hq := hb <;> try simp only [decide_eq_true_eq, decide_eq_false_iff_not, gt_iff_lt, ge_iff_le, Int.not_lt, Int.not_le, beq_iff_eq, beq_eq_false_iff_ne, Bool.not_eq_true', Bool.not_eq_false', Bool.and_eq_true, Bool.or_eq_true, Bool.and_eq_false_imp, Bool.or_eq_false_iff, ne_eq, Classical.not_not] at hq)
       | with_reducible refine retP_ret_i ?_
       | with_reducible refine retP_normal_i ?_
       | (with_reducible (show bindG _ _ _ _ _); simp only [hall])) <;> try simp only [Go.AM.S1, Go.AM.S2, Go.AM.S3, Go.AM.S4, Go.AM.S5, Go.AM.S6, Go.AM.S7, Go.AM.S8, Go.AM.S9, Nat.reduceAdd, Nat.reduceMul, Nat.reduceSub, ↓reduceIte, Nat.reduceEqDiff, Nat.reduceLT, Nat.reduceLeDiff, reduceCtorEq, Int.reduceBEq, Int.reduceBNe, Nat.reduceBEq, Int.reduceEq, Int.reduceToNat, Int.reduceLE, Int.reduceLT, Nat.reduceDiv, Int.reduceAdd, Int.reduceSub, Int.reduceMul, Int.reduceNeg, Int.reduceGT, Int.reduceGE, Nat.reduceMod, k73_23, s23_eq, k73_42, s42_eq, k73_63, s63_eq, ty_3, ty_4, ty_9, ty_26, ty_28, ty_53, ty_58, hI, infoT, hO, V4_x, hM])
    | (with_reducible refine hX _ _ ?_; clear hX X)
    | (with_reducible refine opsD_nil_i ?_; try clear hall all)
    | (with_reducible refine keysB_i ?_; kernel_rfl)
    | ((with_reducible show clashK _ _ _ = true); kernel_rfl)
    | (with_reducible refine ops_nil_i ?_; try clear hall all)
    | (with_reducible refine opsN_nil_i ?_; try clear hall all)
    | (with_reducible refine hK _ _ ?_; clear hK K)
    | with_reducible refine thenP_normal_i ?_
    | (with_reducible refine zzr4 _ _ ?_; try clear zzr4 Kzzr4)
    | (with_reducible refine zzsr2 _ _ ?_; try clear zzsr2 Kzzsr2)
    | (with_reducible refine zzr3 _ _ ?_; try clear zzr3 Kzzr3)
    | (with_reducible refine zzr2 _ _ ?_; try clear zzr2 Kzzr2)
    | (with_reducible refine zzr1 _ _ ?_; try clear zzr1 Kzzr1)
    | (with_reducible refine zzr0 _ _ ?_; try clear zzr0 Kzzr0)
    | (with_reducible refine awp_seq_l (a := .region 4 _ _) [4, 5] ?_; intro Kzzr4 zzr4)
    | (with_reducible refine awp_seq_l (a := .seq (.region 2 _ _) _) [0, 1, 4, 6] ?_; intro Kzzsr2 zzsr2)
    | (with_reducible refine awp_seq_l (a := .region 3 _ _) [4, 5] ?_; intro Kzzr3 zzr3)
    | (with_reducible refine awp_seq_l (a := .region 2 _ _) [0, 1, 4, 6, 15] ?_; intro Kzzr2 zzr2)
    | (with_reducible refine awp_seq_l (a := .region 1 _ _) [0, 1, 4, 6, 7] ?_; intro Kzzr1 zzr1)
    | (with_reducible refine awp_seq_l (a := .region 0 _ _) [0, 1, 4] ?_; intro Kzzr0 zzr0)
    | (with_reducible refine awp_seq_k ?_; intro K hK)
    | (with_reducible refine awp_region_a ?_; intro all hall K hK)
    | (with_reducible refine awp_draw_a (id := 4) ?_ ?_; kernel_rfl; intro all hall K hK)
    | (with_reducible refine awp_draw_n ?_ ?_; kernel_rfl; intro all hall K hK)
    | (with_reducible refine Chk_i ?_ ?_)
    | (with_reducible refine keysC_i ?_; kernel_rfl)
    | (with_reducible first | refine awp_block_i ?_ | refine awp_skip_i ?_ | refine awp_ret_i ?_ | refine awp_exit_i ?_ | refine thenP_ret_i ?_ | refine thenP_exit_i ?_ | refine lpP_ret_i ?_ | refine lpP_exit_i ?_ | refine unrP_succ_i ?_ | refine unrP_ret_i ?_ | refine unrP_exit_i ?_ | refine blockP_normal_i ?_ | refine blockP_ret_i ?_)
    | (with_reducible refine blockP_exit_i ?_; simp only [↓reduceIte, Nat.reduceEqDiff])
    | with_reducible refine lpP_normal_i ?_)
  all_goals (try clear zzr0; try clear Kzzr0)
  all_goals (try clear zzr1; try clear Kzzr1)
  all_goals (try clear zzr2; try clear Kzzr2)
  all_goals (try clear zzr3; try clear Kzzr3)
  all_goals (try clear zzsr2; try clear Kzzsr2)
  all_goals (try clear zzr4; try clear Kzzr4)
  all_goals (try simp only [inR])
  all_goals first
    | omega
    | exact ⟨hp, ⟨w4_lim _ _, w4_lim _ _, w4_lim _ _, w4_lim _ _⟩, .inl ⟨rfl, rfl, by omega, by omega, .inl (by omega)⟩⟩
    | skip
theorem sound_73 : Sound Try.prog 73 .body (norm s73) := by
  refine sound_norm (sound_body Try.func73 (show Try.f73.body = some (code Try.f73) from rfl) (by kernel_rfl) tysOk G73_ok (drawOk_ok (by kernel_rfl) tysOk G73_ok) (by kernel_rfl) fun ds p r hs hp => ?_)
  unfold s73 at hs
  split at hs
  · cases hs; exact ⟨Nat.le_of_ble_eq_true (by kernel_rfl), w73 _ _ hp⟩
  · cases hs
end Go.Proofs.AMT
set_option maxRecDepth 20000
namespace Go.Proofs.AMT
open Go.AM Go.AM.LN
attribute [local congr] bindO_congr bindS_congr bindG_congr awpOps_congr aOne_congr awp_congr aCond_congr awpD_congr dOne_congr keysB_congr nOne_congr thenP_congr blockP_congr Chk_congr Brk_congr
noncomputable def s74 : CSpec := fun ds => match ds with
  | [.v (.int .i64 d), .v (.bool s)] => some (True, .one (.v (.bool (infS d s))))
  | _ => none
theorem s74_eq (d : Int) (s : Bool) : norm s74 [.v (.int .i64 d), .v (.bool s)] = some (True, .one (.v (.bool (infS d s)))) := rfl
noncomputable def G74 : Gam := []
theorem G74_ok : GamOk Try.prog G74 := gamOk_nil
set_option maxHeartbeats 20000000 in
theorem w74 (d : Int) (s : Bool) (hp : True) : awp ty G74 (code Try.f74) (retP ty Try.f74.results.toList (.one (.v (.bool (infS d s))))) (entry 0 [.v (.int .i64 d), .v (.bool s)]) [] := by
  unfold code
  simp only [Try.f74, Option.getD_some]
  all_goals repeat' (first
    | ((first
       | (with_reducible refine ops_k ?_; intro X hX)
       | (with_reducible refine opsN_k ?_; intro X hX)
       | (with_reducible show awp _ _ _ _ (keepL _ _) _)
       | with_reducible refine awp_cond_k ?_
       | (with_reducible refine Brk_i ?_ ?_ <;> intro hb <;> (try simp only [hb]) <;> have hq := hb <;> try simp only [decide_eq_true_eq, decide_eq_false_iff_not, gt_iff_lt, ge_iff_le, Int.not_lt, Int.not_le, beq_iff_eq, beq_eq_false_iff_ne, Bool.not_eq_true', Bool.not_eq_false', Bool.and_eq_true, Bool.or_eq_true, Bool.and_eq_false_imp, Bool.or_eq_false_iff, ne_eq, Classical.not_not] at hq)
       | with_reducible refine retP_ret_i ?_
       | with_reducible refine retP_normal_i ?_
       | (with_reducible (show bindG _ _ _ _ _); simp only [hall])) <;> try simp only [Go.AM.S1, Go.AM.S2, Go.AM.S3, Go.AM.S4, Go.AM.S5, Go.AM.S6, Go.AM.S7, Go.AM.S8, Go.AM.S9, Nat.reduceAdd, Nat.reduceMul, Nat.reduceSub, ↓reduceIte, Nat.reduceEqDiff, Nat.reduceLT, Nat.reduceLeDiff, reduceCtorEq, Int.reduceBEq, Int.reduceBNe, Nat.reduceBEq, Int.reduceEq, Int.reduceToNat, Int.reduceLE, Int.reduceLT, Nat.reduceDiv, Int.reduceAdd, Int.reduceSub, Int.reduceMul, Int.reduceNeg, Int.reduceGT, Int.reduceGE, Nat.reduceMod, ty_3, ty_4])
    | (with_reducible refine hX _ _ ?_; clear hX X)
    | (with_reducible refine ops_nil_i ?_; try clear hall all)
    | (with_reducible refine opsN_nil_i ?_; try clear hall all)
    | (with_reducible refine hK _ _ ?_; clear hK K)
    | with_reducible refine thenP_normal_i ?_
    | (with_reducible refine zzr1 _ _ ?_; try clear zzr1 Kzzr1)
    | (with_reducible refine zzr0 _ _ ?_; try clear zzr0 Kzzr0)
    | (with_reducible refine awp_seq_l (a := .region 1 _ _) [4] ?_; intro Kzzr1 zzr1)
    | (with_reducible refine awp_seq_l (a := .region 0 _ _) [0, 1] ?_; intro Kzzr0 zzr0)
    | (with_reducible refine awp_seq_k ?_; intro K hK)
    | (with_reducible refine awp_region_a ?_; intro all hall K hK)
    | (with_reducible refine awp_draw_n ?_ ?_; kernel_rfl; intro all hall K hK)
    | (with_reducible refine Chk_i ?_ ?_)
    | (with_reducible refine keysC_i ?_; kernel_rfl)
    | (with_reducible first | refine awp_block_i ?_ | refine awp_skip_i ?_ | refine awp_ret_i ?_ | refine awp_exit_i ?_ | refine thenP_ret_i ?_ | refine thenP_exit_i ?_ | refine lpP_ret_i ?_ | refine lpP_exit_i ?_ | refine unrP_succ_i ?_ | refine unrP_ret_i ?_ | refine unrP_exit_i ?_ | refine blockP_normal_i ?_ | refine blockP_ret_i ?_)
    | (with_reducible refine blockP_exit_i ?_; simp only [↓reduceIte, Nat.reduceEqDiff])
    | with_reducible refine lpP_normal_i ?_)
  all_goals (try clear zzr0; try clear Kzzr0)
  all_goals (try clear zzr1; try clear Kzzr1)
  all_goals (unfold infS; refine congrArg _ ?_; repeat' split)
  all_goals first
    | (exfalso; omega)
    | rfl
    | (cases s <;> first | rfl | simp at * | (exfalso; omega))
theorem sound_74 : Sound Try.prog 74 .body (norm s74) := by
  refine sound_norm (sound_body Try.func74 (show Try.f74.body = some (code Try.f74) from rfl) (by kernel_rfl) tysOk G74_ok (drawOk_ok (by kernel_rfl) tysOk G74_ok) (by kernel_rfl) fun ds p r hs hp => ?_)
  unfold s74 at hs
  split at hs
  · cases hs; exact ⟨Nat.le_of_ble_eq_true (by kernel_rfl), w74 _ _ hp⟩
  · cases hs
end Go.Proofs.AMT
set_option maxRecDepth 20000
namespace Go.Proofs.AMT
open Go.AM Go.AM.LN
attribute [local congr] bindO_congr bindS_congr bindG_congr awpOps_congr aOne_congr awp_congr aCond_congr awpD_congr dOne_congr keysB_congr nOne_congr thenP_congr blockP_congr Chk_congr Brk_congr
noncomputable def s47 : CSpec := fun ds => match ds with
  | [.v (.int .i64 n), .v (.int .i64 d), .v (.bool s)] => some (1 ≤ n ∧ n ≤ 6, .many [.v (.agg #[.int .u64 (w4 (ovV n d s) 0), .int .u64 (w4 (ovV n d s) 1), .int .u64 (w4 (ovV n d s) 2), .int .u64 (w4 (ovV n d s) 3)]), .v (.int .i64 10), .v (.int .i64 0)])
  | _ => none
theorem s47_eq (n : Int) (d : Int) (s : Bool) : norm s47 [.v (.int .i64 n), .v (.int .i64 d), .v (.bool s)] = some (1 ≤ n ∧ n ≤ 6, .many [.v (.agg #[.int .u64 (w4 (ovV n d s) 0), .int .u64 (w4 (ovV n d s) 1), .int .u64 (w4 (ovV n d s) 2), .int .u64 (w4 (ovV n d s) 3)]), .v (.int .i64 10), .v (.int .i64 0)]) := rfl
noncomputable def G47 : Gam := [(42, .body, norm s42), (73, .body, norm s73), (74, .body, norm s74)]
theorem G47_ok : GamOk Try.prog G47 := gamOk_cons sound_42 (gamOk_cons sound_73 (gamOk_cons sound_74 gamOk_nil))
theorem k47_42 : lk G47 42 = some (.body, norm s42) := rfl
theorem k47_73 : lk G47 73 = some (.body, norm s73) := rfl
theorem k47_74 : lk G47 74 = some (.body, norm s74) := rfl
set_option maxHeartbeats 20000000 in
theorem w47 (n : Int) (d : Int) (s : Bool) (hp : 1 ≤ n ∧ n ≤ 6) : awp ty G47 (code Try.f47) (retP ty Try.f47.results.toList (.many [.v (.agg #[.int .u64 (w4 (ovV n d s) 0), .int .u64 (w4 (ovV n d s) 1), .int .u64 (w4 (ovV n d s) 2), .int .u64 (w4 (ovV n d s) 3)]), .v (.int .i64 10), .v (.int .i64 0)])) (entry 0 [.v (.int .i64 n), .v (.int .i64 d), .v (.bool s)]) [] := by
  unfold code
  simp only [Try.f47, Option.getD_some]
  obtain ⟨F1, F2, F3, F4, F5, F6, F7, F8, F9, F10, F11⟩ := bfmt hp
  have ov1 : infS d s = true → ovV n d s = packS n 2 s false 0 0 := fun h => if_pos h
  have ov0 : infS d s = false → ovV n d s = packS n 1 s false (2 ^ (fp n).toNat - 1) (fe n + 1 - fp n) := fun h => if_neg (by rw [h]; exact Bool.false_ne_true)
  rcases Bool.eq_false_or_eq_true (infS d s) with hi | hi
  all_goals first
    | rw [ov1 hi]
    | rw [ov0 hi]
  all_goals repeat' (first
    | ((first
       | (with_reducible refine ops_k ?_; intro X hX)
       | (with_reducible refine opsN_k ?_; intro X hX)
       | (with_reducible show awp _ _ _ _ (keepL _ _) _)
       | with_reducible refine awp_cond_k ?_
       | (with_reducible refine Brk_i ?_ ?_ <;> intro hb <;> (try simp only [hb]) <;> have hq := hb <;> try simp only [decide_eq_true_eq, decide_eq_false_iff_not, gt_iff_lt, ge_iff_le, Int.not_lt, Int.not_le, beq_iff_eq, beq_eq_false_iff_ne, Bool.not_eq_true', Bool.not_eq_false', Bool.and_eq_true, Bool.or_eq_true, Bool.and_eq_false_imp, Bool.or_eq_false_iff, ne_eq, Classical.not_not] at hq)
       | with_reducible refine retP_ret_i ?_
       | with_reducible refine retP_normal_i ?_
       | (with_reducible (show bindG _ _ _ _ _); simp only [hall])) <;> try simp only [Go.AM.S1, Go.AM.S2, Go.AM.S3, Go.AM.S4, Go.AM.S5, Go.AM.S6, Go.AM.S7, Go.AM.S8, Go.AM.S9, Nat.reduceAdd, Nat.reduceMul, Nat.reduceSub, ↓reduceIte, Nat.reduceEqDiff, Nat.reduceLT, Nat.reduceLeDiff, reduceCtorEq, Int.reduceBEq, Int.reduceBNe, Nat.reduceBEq, Int.reduceEq, Int.reduceToNat, Int.reduceLE, Int.reduceLT, Nat.reduceDiv, Int.reduceAdd, Int.reduceSub, Int.reduceMul, Int.reduceNeg, Int.reduceGT, Int.reduceGE, Nat.reduceMod, k47_42, s42_eq, k47_73, s73_eq, k47_74, s74_eq, ty_3, ty_4, ty_26, ty_28, ty_53, hi, V4_x])
    | (with_reducible refine hX _ _ ?_; clear hX X)
    | (with_reducible refine ops_nil_i ?_; try clear hall all)
    | (with_reducible refine opsN_nil_i ?_; try clear hall all)
    | (with_reducible refine hK _ _ ?_; clear hK K)
    | with_reducible refine thenP_normal_i ?_
    | (with_reducible refine zzr4 _ _ ?_; try clear zzr4 Kzzr4)
    | (with_reducible refine zzsr2 _ _ ?_; try clear zzsr2 Kzzsr2)
    | (with_reducible refine zzr2 _ _ ?_; try clear zzr2 Kzzr2)
    | (with_reducible refine zzr1 _ _ ?_; try clear zzr1 Kzzr1)
    | (with_reducible refine zzr0 _ _ ?_; try clear zzr0 Kzzr0)
    | (with_reducible refine awp_seq_l (a := .region 4 _ _) [6, 7, 8] ?_; intro Kzzr4 zzr4)
    | (with_reducible refine awp_seq_l (a := .seq (.region 2 _ _) _) [6, 9, 10] ?_; intro Kzzsr2 zzsr2)
    | (with_reducible refine awp_seq_l (a := .region 2 _ _) [0, 2, 6, 9, 10, 19] ?_; intro Kzzr2 zzr2)
    | (with_reducible refine awp_seq_l (a := .region 1 _ _) [0, 1, 2, 6, 9, 10] ?_; intro Kzzr1 zzr1)
    | (with_reducible refine awp_seq_l (a := .region 0 _ _) [0, 1, 2, 6] ?_; intro Kzzr0 zzr0)
    | (with_reducible refine awp_seq_k ?_; intro K hK)
    | (with_reducible refine awp_region_a ?_; intro all hall K hK)
    | (with_reducible refine awp_draw_n ?_ ?_; kernel_rfl; intro all hall K hK)
    | (with_reducible refine Chk_i ?_ ?_)
    | (with_reducible refine keysC_i ?_; kernel_rfl)
    | (with_reducible first | refine awp_block_i ?_ | refine awp_skip_i ?_ | refine awp_ret_i ?_ | refine awp_exit_i ?_ | refine thenP_ret_i ?_ | refine thenP_exit_i ?_ | refine lpP_ret_i ?_ | refine lpP_exit_i ?_ | refine unrP_succ_i ?_ | refine unrP_ret_i ?_ | refine unrP_exit_i ?_ | refine blockP_normal_i ?_ | refine blockP_ret_i ?_)
    | (with_reducible refine blockP_exit_i ?_; simp only [↓reduceIte, Nat.reduceEqDiff])
    | with_reducible refine lpP_normal_i ?_)
  all_goals (try clear zzr0; try clear Kzzr0)
  all_goals (try clear zzr1; try clear Kzzr1)
  all_goals (try clear zzr2; try clear Kzzr2)
  all_goals (try clear zzsr2; try clear Kzzsr2)
  all_goals (try clear zzr4; try clear Kzzr4)
  all_goals first
    | omega
    | exact ⟨hp, .inr (.inl ⟨rfl, rfl, rfl, rfl⟩)⟩
    | skip
theorem sound_47 : Sound Try.prog 47 .body (norm s47) := by
  refine sound_norm (sound_body Try.func47 (show Try.f47.body = some (code Try.f47) from rfl) (by kernel_rfl) tysOk G47_ok (drawOk_ok (by kernel_rfl) tysOk G47_ok) (by kernel_rfl) fun ds p r hs hp => ?_)
  unfold s47 at hs
  split at hs
  · cases hs; exact ⟨Nat.le_of_ble_eq_true (by kernel_rfl), w47 _ _ _ hp⟩
  · cases hs
end Go.Proofs.AMT
