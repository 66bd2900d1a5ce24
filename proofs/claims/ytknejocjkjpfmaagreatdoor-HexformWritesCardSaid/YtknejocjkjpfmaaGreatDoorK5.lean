/- Part 5 of the proof: own text (LN18, LN19, LN20, LN21, LN22, LN23, FdescOf, FdescBinary, Fbinaryand, FlimbsShr, FlimbsShl, FlimbsSub, FlimbsOf, Fbinarymask, FbinaryField). -/
import Derived.Test.YtknejocjkjpfmaaGreatDoorK0
import Derived.Test.YtknejocjkjpfmaaGreatDoorK1
import Derived.Test.YtknejocjkjpfmaaGreatDoorK2
import Derived.Test.YtknejocjkjpfmaaGreatDoorK3
import Derived.Test.YtknejocjkjpfmaaGreatDoorK4
set_option linter.all false
set_option maxRecDepth 20000
namespace Go.AM.LN
theorem or_low {w x : Int} {s : Nat} (hw : 0 ≤ w ∧ w.toNat < 2 ^ s) (hx : 0 ≤ x ∧ x < 18446744073709551616) (hs : s ≤ 63) :
    AM.bits .or .u64 w (x * 2 ^ s % 18446744073709551616) = ((w.toNat + x.toNat * 2 ^ s % 18446744073709551616 : Nat) : Int) := by
  obtain ⟨w, rfl⟩ := Int.eq_ofNat_of_zero_le hw.1
  obtain ⟨x, rfl⟩ := Int.eq_ofNat_of_zero_le hx.1
  have h1 := hw.2
  simp only [Int.toNat_natCast] at h1 ⊢
  have h2 : 2 ^ s ≤ 2 ^ 63 := Nat.pow_le_pow_right (by omega) hs
  have h3 : (2 : Nat) ^ 63 = 9223372036854775808 := rfl
  have h4 := or_shl (x := x) (show s ≤ 64 by omega) h1
  rw [castShl]
  have h5 : x * 2 ^ s % 18446744073709551616 < 18446744073709551616 := Nat.mod_lt _ (Nat.lt_of_lt_of_eq (Nat.two_pow_pos 64) rfl)
  rw [Nat.add_comm w, ← h4, Nat.or_comm]
  generalize x * 2 ^ s % 18446744073709551616 = q at *
  rw [or_u64 ⟨by omega, by omega⟩ ⟨by omega, by omega⟩, Int.toNat_natCast, Int.toNat_natCast]
/-- The word behind what is there. -/
theorem low_word {o : List Int} {i s V : Nat} (lo : lim o) (h : val o < 2 ^ (64 * i) * 2 ^ s) (hs : s ≤ 64) : (o.getD i 0).toNat < 2 ^ s := by
  have h1 := val_getD o i lo
  have h2 : val o / 2 ^ (64 * i) < 2 ^ s := (Nat.div_lt_iff_lt_mul (Nat.two_pow_pos _)).2 (by rw [Nat.mul_comm]; exact h)
  rw [← h1]
  exact Nat.lt_of_le_of_lt (Nat.mod_le _ _) h2
theorem shift_step0 {o a : List Int} {i s : Nat} (la : lim a) (hs : s = 0) (hi : i < o.length) (h : val o = val (a.take i) * 2 ^ s) (h0 : o.getD i 0 = 0) :
    val (o.set i (((a.getD i 0).toNat * 2 ^ s % 18446744073709551616 : Nat) : Int)) = val (a.take (i + 1)) * 2 ^ s := by
  have h1 := val_set hi (((a.getD i 0).toNat * 2 ^ s % 18446744073709551616 : Nat) : Int)
  have h2 := lim_get la (i := i)
  subst hs
  rw [h0, Int.toNat_natCast] at h1
  rw [val_take_succ']
  simp only [Nat.pow_zero, Nat.mul_one] at *
  rw [Nat.mod_eq_of_lt (by omega)] at *
  simp only [Int.toNat_zero, Nat.mul_zero, Nat.add_zero] at h1
  rw [h1, h]
theorem shift_step {o a : List Int} {i s w : Nat} (la : lim a) (hs : s ≤ 63) (hi : i + 1 < o.length) (h : val o = val (a.take i) * 2 ^ s) (hw : (o.getD i 0).toNat = w) (h1 : o.getD (i + 1) 0 = 0) :
    val ((o.set i ((w + (a.getD i 0).toNat * 2 ^ s % 18446744073709551616 : Nat) : Int)).set (i + 1) (((a.getD i 0).toNat / 2 ^ (64 - s) : Nat) : Int)) = val (a.take (i + 1)) * 2 ^ s := by
  have e1 := val_set (o := o) (j := i) (by omega) ((w + (a.getD i 0).toNat * 2 ^ s % 18446744073709551616 : Nat) : Int)
  have e2 := val_set (o := o.set i ((w + (a.getD i 0).toNat * 2 ^ s % 18446744073709551616 : Nat) : Int)) (j := i + 1) (by simpa using hi) (((a.getD i 0).toNat / 2 ^ (64 - s) : Nat) : Int)
  rw [getD_set_other (by omega), h1] at e2
  rw [hw] at e1
  have h2 := lim_get la (i := i)
  have e3 := mul_mod_div (x := (a.getD i 0).toNat) (s := s) (by omega) (by omega)
  rw [val_take_succ', pow64_succ] at *
  simp only [Int.toNat_natCast, Int.toNat_zero, Nat.mul_zero, Nat.add_zero] at *
  generalize (a.getD i 0).toNat = x at *
  generalize x * 2 ^ s % 18446744073709551616 = lo at *
  generalize x / 2 ^ (64 - s) = hi' at *
  generalize 2 ^ (64 * i) = p at *
  generalize 2 ^ s = t at *
  rw [h] at e1
  generalize val (a.take i) = A at *
  have e4 : p * (lo + 18446744073709551616 * hi') = p * (x * t) := by rw [e3]
  grind
theorem shift_lt {o a : List Int} {i s : Nat} (la : lim a) (h : val o = val (a.take i) * 2 ^ s) : val o < 2 ^ (64 * i) * 2 ^ s := by
  rw [h]; exact Nat.mul_lt_mul_of_pos_right (val_take_lt la i) (Nat.two_pow_pos _)
/-- The highest word of a divisor brought to the top. -/
theorem norm_top {b : List Int} (lb : lim b) (hs : sz b = b.length) (h2 : 2 ≤ b.length) :
    2 ^ (64 * b.length - 1) ≤ val b * 2 ^ (64 - blen (b.getD (b.length - 1) 0).toNat) ∧ val b * 2 ^ (64 - blen (b.getD (b.length - 1) 0).toNat) < 2 ^ (64 * b.length) := by
  have h1 := blen_top lb (by omega)
  rw [hs] at h1
  have h3 : 1 ≤ blen (b.getD (b.length - 1) 0).toNat := by
    have := sz_top (a := b) (by omega)
    rw [hs] at this
    have h5 := lim_get lb (i := b.length - 1)
    have := @blen_zero (b.getD (b.length - 1) 0).toNat
    omega
  have h4 : blen (b.getD (b.length - 1) 0).toNat ≤ 64 := blen_lt.2 (by have := lim_get lb (i := b.length - 1); omega)
  have hv : val b ≠ 0 := fun h => by
    rw [h] at h1
    have : blen 0 = 0 := rfl
    omega
  have h5 := blen_mul hv (64 - blen (b.getD (b.length - 1) 0).toNat)
  exact ⟨blen_le.1 (by omega), blen_lt.1 (by omega)⟩
/-! Long division (Knuth's algorithm D): what holds of a guess. M = 2 ^ 64, p = M ^ (n - 2). -/
/-- The guess out of two words is not too small. -/
theorem kd_guess {un u1 v1 W B P l q : Nat} (hP : 0 < P) (hW : W = (un * 18446744073709551616 + u1) * P + l) (hl : l < P) (hB : v1 * P ≤ B) (hv : 0 < v1) (hq : q * B ≤ W) :
    q ≤ (un * 18446744073709551616 + u1) / v1 := by
  refine (Nat.le_div_iff_mul_le hv).2 (Nat.le_of_lt_succ ?_)
  refine Nat.lt_of_mul_lt_mul_right (a := P) ?_
  have h1 : q * (v1 * P) ≤ q * B := Nat.mul_le_mul_left _ hB
  rw [Nat.succ_eq_add_one, Nat.add_mul, Nat.one_mul, Nat.mul_assoc]
  omega
/-- The test holds on: the guess is too great. -/
theorem kd_great {un u1 u2 v1 v2 W B P l q g r : Nat} (hP : 0 < P) (hW : W = ((un * 18446744073709551616 + u1) * 18446744073709551616 + u2) * P + l) (hl : l < P) (hB : (v1 * 18446744073709551616 + v2) * P ≤ B)
    (hg : un * 18446744073709551616 + u1 = g * v1 + r) (ht : r * 18446744073709551616 + u2 < g * v2) (hq : q * B ≤ W) : q < g := by
  refine Classical.byContradiction fun hn => ?_
  have h1 : g * B ≤ W := Nat.le_trans (Nat.mul_le_mul_right _ (by omega)) hq
  have h2 : g * ((v1 * 18446744073709551616 + v2) * P) ≤ g * B := Nat.mul_le_mul_left _ hB
  have h3 : g * (v1 * 18446744073709551616 + v2) < (un * 18446744073709551616 + u1) * 18446744073709551616 + u2 + 1 := by
    refine Nat.lt_of_mul_lt_mul_right (a := P) ?_
    rw [Nat.add_mul ((un * 18446744073709551616 + u1) * 18446744073709551616 + u2), Nat.one_mul, Nat.mul_assoc]
    omega
  rw [hg] at h3
  grind
/-- A round of the multiply and subtract loop. -/
theorem kd_sub {u b : List Int} {i j c w c' w' g s U : Nat} (hj : j + i < u.length) (hI : val u + 2 ^ (64 * j) * g * val (b.take i) = U + (c + w) * 2 ^ (64 * (j + i)))
    (hw : s + g * (b.getD i 0).toNat + c + w = (u.getD (j + i) 0).toNat + 18446744073709551616 * (c' + w')) :
    val (u.set (j + i) (s : Int)) + 2 ^ (64 * j) * g * val (b.take (i + 1)) = U + (c' + w') * 2 ^ (64 * (j + (i + 1))) := by
  have h1 := val_set hj (s : Int)
  rw [val_take_succ', show j + (i + 1) = (j + i) + 1 by omega, pow64_succ, pow64_add] at *
  rw [Int.toNat_natCast] at h1
  generalize 2 ^ (64 * j) = p at *
  generalize 2 ^ (64 * i) = q at *
  generalize (u.getD (j + i) 0).toNat = x at *
  generalize (b.getD i 0).toNat = y at *
  generalize val (b.take i) = V at *
  have e : p * q * (s + g * y + c + w) = p * q * (x + 18446744073709551616 * (c' + w')) := by rw [hw]
  grind
/-- The last word of it. -/
theorem kd_last {u : List Int} {i j c w w' g s U B : Nat} (hj : j + i < u.length) (hI : val u + 2 ^ (64 * j) * g * B = U + (c + w) * 2 ^ (64 * (j + i)))
    (hw : s + c + w = (u.getD (j + i) 0).toNat + 18446744073709551616 * w') :
    val (u.set (j + i) (s : Int)) + 2 ^ (64 * j) * g * B = U + w' * 2 ^ (64 * (j + (i + 1))) := by
  have h1 := val_set hj (s : Int)
  rw [show j + (i + 1) = (j + i) + 1 by omega, pow64_succ, pow64_add] at *
  rw [Int.toNat_natCast] at h1
  generalize 2 ^ (64 * j) = p at *
  generalize 2 ^ (64 * i) = q at *
  generalize (u.getD (j + i) 0).toNat = x at *
  have e : p * q * (s + c + w) = p * q * (x + 18446744073709551616 * w') := by rw [hw]
  grind
/-- A round of adding back. -/
theorem kd_add {u b : List Int} {i j c c' s U : Nat} (hj : j + i < u.length) (hI : val u + c * 2 ^ (64 * (j + i)) = U + 2 ^ (64 * j) * val (b.take i))
    (hw : s + 18446744073709551616 * c' = (u.getD (j + i) 0).toNat + (b.getD i 0).toNat + c) :
    val (u.set (j + i) (s : Int)) + c' * 2 ^ (64 * (j + (i + 1))) = U + 2 ^ (64 * j) * val (b.take (i + 1)) := by
  have h1 := val_set hj (s : Int)
  rw [val_take_succ', show j + (i + 1) = (j + i) + 1 by omega, pow64_succ, pow64_add] at *
  rw [Int.toNat_natCast] at h1
  generalize 2 ^ (64 * j) = p at *
  generalize 2 ^ (64 * i) = q at *
  generalize (u.getD (j + i) 0).toNat = x at *
  generalize (b.getD i 0).toNat = y at *
  generalize val (b.take i) = V at *
  have e : p * q * (s + 18446744073709551616 * c') = p * q * (x + y + c) := by rw [hw]
  grind
theorem kd_addl {u : List Int} {i j c c' s U V : Nat} (hj : j + i < u.length) (hI : val u + c * 2 ^ (64 * (j + i)) = U + 2 ^ (64 * j) * V)
    (hw : s + 18446744073709551616 * c' = (u.getD (j + i) 0).toNat + 0 + c) :
    val (u.set (j + i) (s : Int)) + c' * 2 ^ (64 * (j + (i + 1))) = U + 2 ^ (64 * j) * V := by
  have h1 := val_set hj (s : Int)
  rw [show j + (i + 1) = (j + i) + 1 by omega, pow64_succ, pow64_add] at *
  rw [Int.toNat_natCast] at h1
  generalize 2 ^ (64 * j) = p at *
  generalize 2 ^ (64 * i) = q at *
  generalize (u.getD (j + i) 0).toNat = x at *
  have e : p * q * (s + 18446744073709551616 * c') = p * q * (x + 0 + c) := by rw [hw]
  grind
end Go.AM.LN
namespace Go.AM.LN
theorem castShr2 {a : Int} {s : Nat} (h : 0 ≤ a) : a / 2 ^ s = ((a.toNat / 2 ^ s : Nat) : Int) := by
  obtain ⟨a, rfl⟩ := Int.eq_ofNat_of_zero_le h
  rw [castShr, Int.toNat_natCast]
theorem low_sum {w x s : Nat} (hs : s ≤ 63) (hw : w < 2 ^ s) : w + x * 2 ^ s % 18446744073709551616 < 18446744073709551616 := by
  have e : (18446744073709551616 : Nat) = 2 ^ (64 - s) * 2 ^ s := by rw [← Nat.pow_add, show 64 - s + s = 64 by omega]
  rw [e, Nat.mul_mod_mul_right]
  have h1 : x % 2 ^ (64 - s) < 2 ^ (64 - s) := Nat.mod_lt _ (Nat.two_pow_pos _)
  have h2 : (x % 2 ^ (64 - s) + 1) * 2 ^ s ≤ 2 ^ (64 - s) * 2 ^ s := Nat.mul_le_mul_right _ h1
  rw [Nat.add_mul, Nat.one_mul] at h2
  omega
end Go.AM.LN
set_option maxRecDepth 20000
namespace Go.AM.LN
theorem val_drop_cons (u : List Int) (i : Nat) : val (u.drop i) = (u.getD i 0).toNat + 18446744073709551616 * val (u.drop (i + 1)) := by
  by_cases h : i < u.length
  · rw [drop_cons h]; rfl
  · rw [List.drop_eq_nil_of_le (by omega), List.drop_eq_nil_of_le (by omega), getD_out (by omega)]; rfl
theorem sz_take_eq {u : List Int} (lu : lim u) {k : Nat} (h : val u < 2 ^ (64 * k)) : sz (u.take k) = sz u := by
  rw [← len_limbs_sz lu, ← len_limbs_sz (lim_take lu k), val_take _ _ lu, Nat.mod_eq_of_lt h]
theorem kd_init {a b : List Int} (la : lim a) (h2 : 2 ≤ b.length) (hb : 2 ^ (64 * b.length - 1) ≤ val b) : val a < val b * 2 ^ (64 * (a.length + 1 - b.length)) := by
  have h1 := val_lt la
  refine Nat.lt_of_lt_of_le h1 (Nat.le_trans ?_ (Nat.mul_le_mul_right _ hb))
  rw [← Nat.pow_add]
  exact Nat.pow_le_pow_right (by omega) (by omega)
theorem kd_words {u : List Int} {j n : Nat} (lu : lim u) (hn : 2 ≤ n) (h : val u < 2 ^ (64 * (j + n + 1))) :
    ∃ l, l < 2 ^ (64 * (n - 2)) ∧ val u / 2 ^ (64 * j) = (((u.getD (j + n) 0).toNat * 18446744073709551616 + (u.getD (j + n - 1) 0).toNat) * 18446744073709551616 + (u.getD (j + n - 2) 0).toNat) * 2 ^ (64 * (n - 2)) + l := by
  refine ⟨val ((u.drop j).take (n - 2)), val_take_lt (lim_drop lu _) _, ?_⟩
  rw [← val_drop _ _ lu]
  have e1 : val (u.drop j) = val ((u.drop j).take (n - 2)) + 2 ^ (64 * (n - 2)) * val ((u.drop j).drop (n - 2)) := by
    rw [val_take _ _ (lim_drop lu j), val_drop _ _ (lim_drop lu j), Nat.mod_add_div]
  have e2 := val_drop_cons u (j + (n - 2))
  have e3 := val_drop_cons u (j + (n - 2) + 1)
  have e4 := val_drop_cons u (j + (n - 2) + 1 + 1)
  have e5 : val (u.drop (j + (n - 2) + 1 + 1 + 1)) = 0 := by
    rw [val_drop _ _ lu]
    exact Nat.div_eq_of_lt (by rw [show j + (n - 2) + 1 + 1 + 1 = j + n + 1 by omega]; exact h)
  rw [e5] at e4
  rw [List.drop_drop] at e1
  rw [e1, e2, e3, e4, show j + (n - 2) + 1 + 1 = j + n by omega, show j + (n - 2) + 1 = j + n - 1 by omega, show j + (n - 2) = j + n - 2 by omega]
  generalize 2 ^ (64 * (n - 2)) = p
  grind
theorem kd_top {b : List Int} (lb : lim b) (hn : 2 ≤ b.length) :
    ∃ l, l < 2 ^ (64 * (b.length - 2)) ∧ val b = ((b.getD (b.length - 1) 0).toNat * 18446744073709551616 + (b.getD (b.length - 2) 0).toNat) * 2 ^ (64 * (b.length - 2)) + l := by
  refine ⟨val (b.take (b.length - 2)), val_take_lt lb _, ?_⟩
  have e1 : val b = val (b.take (b.length - 2)) + 2 ^ (64 * (b.length - 2)) * val (b.drop (b.length - 2)) := by
    rw [val_take _ _ lb, val_drop _ _ lb, Nat.mod_add_div]
  have e2 := val_drop_cons b (b.length - 2)
  have e3 := val_drop_cons b (b.length - 2 + 1)
  have e4 : val (b.drop (b.length - 2 + 1 + 1)) = 0 := by rw [List.drop_eq_nil_of_le (by omega)]; rfl
  rw [e4] at e3
  rw [show b.length - 2 + 1 = b.length - 1 by omega] at *
  generalize 2 ^ (64 * (b.length - 2)) = p at *
  grind
/-- What is known of one digit of the quotient. -/
structure KD (u b : List Int) (j qd : Nat) : Prop where
  ql : qd < 18446744073709551616
  ub : val u < 2 ^ (64 * (j + b.length + 1))
  le : qd * val b * 2 ^ (64 * j) ≤ val u
  gt : val u < (qd + 1) * val b * 2 ^ (64 * j)
  top : 9223372036854775808 ≤ (b.getD (b.length - 1) 0).toNat
  init : (u.getD (j + b.length) 0).toNat < (b.getD (b.length - 1) 0).toNat → qd ≤ ((u.getD (j + b.length) 0).toNat * 18446744073709551616 + (u.getD (j + b.length - 1) 0).toNat) / (b.getD (b.length - 1) 0).toNat
  great : ∀ {g r : Nat}, (u.getD (j + b.length) 0).toNat * 18446744073709551616 + (u.getD (j + b.length - 1) 0).toNat = g * (b.getD (b.length - 1) 0).toNat + r →
    r * 18446744073709551616 + (u.getD (j + b.length - 2) 0).toNat < g * (b.getD (b.length - 2) 0).toNat → qd < g
theorem kd_mk {u b : List Int} {j : Nat} (lu : lim u) (lb : lim b) (hn : 2 ≤ b.length) (hb : 2 ^ (64 * b.length - 1) ≤ val b) (hu : val u < val b * 2 ^ (64 * (j + 1))) : KD u b j (val u / (val b * 2 ^ (64 * j))) := by
  have hp : 0 < 2 ^ (64 * j) := Nat.two_pow_pos _
  have hbp : 0 < val b := Nat.lt_of_lt_of_le (Nat.two_pow_pos _) hb
  have hbl := val_lt lb
  have hul : val u < 2 ^ (64 * (j + b.length + 1)) := by
    refine Nat.lt_of_lt_of_le hu ?_
    rw [show j + b.length + 1 = b.length + (j + 1) by omega, pow64_add b.length (j + 1)]
    exact Nat.mul_le_mul_right _ (Nat.le_of_lt hbl)
  obtain ⟨l, hl, hW⟩ := kd_words (j := j) (n := b.length) lu hn hul
  obtain ⟨lb', hlb, hB⟩ := kd_top lb hn
  have hP : 0 < 2 ^ (64 * (b.length - 2)) := Nat.two_pow_pos _
  have hqW : val u / (val b * 2 ^ (64 * j)) * val b ≤ val u / 2 ^ (64 * j) := by
    rw [Nat.mul_comm (val b), ← Nat.div_div_eq_div_mul]
    exact Nat.div_mul_le_self _ _
  have hle : val u / (val b * 2 ^ (64 * j)) * (val b * 2 ^ (64 * j)) ≤ val u := Nat.div_mul_le_self _ _
  have hgt : val u < (val u / (val b * 2 ^ (64 * j)) + 1) * (val b * 2 ^ (64 * j)) := by rw [Nat.mul_comm]; exact Nat.lt_mul_div_succ _ (Nat.mul_pos hbp hp)
  have hu1 := lim_get lu (i := j + b.length - 1)
  have hu2 := lim_get lu (i := j + b.length - 2)
  have hv1 := lim_get lb (i := b.length - 1)
  have hv2 := lim_get lb (i := b.length - 2)
  have htop : 9223372036854775808 ≤ (b.getD (b.length - 1) 0).toNat := by
    have e1 : val b < ((b.getD (b.length - 1) 0).toNat + 1) * 2 ^ (64 * (b.length - 1)) := by
      rw [show b.length - 1 = (b.length - 2) + 1 by omega, pow64_succ]
      rw [show b.length - 2 + 1 = b.length - 1 by omega, hB]
      generalize 2 ^ (64 * (b.length - 2)) = p at *
      have e2 : (b.getD (b.length - 2) 0).toNat * p ≤ 18446744073709551615 * p := Nat.mul_le_mul_right _ (by omega)
      generalize (b.getD (b.length - 1) 0).toNat = v1 at *
      generalize (b.getD (b.length - 2) 0).toNat = v2 at *
      grind
    have e3 : 2 ^ (64 * b.length - 1) = 9223372036854775808 * 2 ^ (64 * (b.length - 1)) := by
      rw [show 64 * b.length - 1 = 63 + 64 * (b.length - 1) by omega, Nat.pow_add]
    rw [e3] at hb
    have e4 := Nat.lt_of_mul_lt_mul_right (Nat.lt_of_le_of_lt hb e1)
    omega
  generalize val u / (val b * 2 ^ (64 * j)) = qd at *
  refine ⟨?_, hul, by rw [Nat.mul_assoc]; exact hle, by rw [Nat.mul_assoc]; exact hgt, htop, fun hlt => ?_, fun {g r} hg ht => ?_⟩
  · have e1 : qd * (val b * 2 ^ (64 * j)) < 18446744073709551616 * (val b * 2 ^ (64 * j)) := by
      rw [pow64_succ] at hu
      refine Nat.lt_of_le_of_lt hle (Nat.lt_of_lt_of_eq hu ?_)
      rw [Nat.mul_left_comm]
    exact Nat.lt_of_mul_lt_mul_right e1
  · refine kd_guess (P := 18446744073709551616 * 2 ^ (64 * (b.length - 2))) (W := val u / 2 ^ (64 * j)) (B := val b) (l := (u.getD (j + b.length - 2) 0).toNat * 2 ^ (64 * (b.length - 2)) + l) (by omega) ?_ ?_ ?_ (by omega) hqW
    · rw [hW]
      generalize 2 ^ (64 * (b.length - 2)) = p
      grind
    · have : (u.getD (j + b.length - 2) 0).toNat * 2 ^ (64 * (b.length - 2)) ≤ 18446744073709551615 * 2 ^ (64 * (b.length - 2)) := Nat.mul_le_mul_right _ (by omega)
      omega
    · rw [hB]
      generalize 2 ^ (64 * (b.length - 2)) = p
      generalize (b.getD (b.length - 1) 0).toNat = v1
      generalize (b.getD (b.length - 2) 0).toNat = v2
      grind
  · exact kd_great hP hW hl (by rw [hB]; omega) hg ht hqW
/-- One too many is borrowed: the guess was too great. -/
theorem kd_over {u u' b : List Int} {j qd g : Nat} (K : KD u b j qd) (lu : lim u') (hul : val u' < 2 ^ (64 * (j + b.length + 1))) (h : val u' + 2 ^ (64 * j) * g * val b = val u + 1 * 2 ^ (64 * (j + b.length + 1))) : qd < g := by
  have h1 : val u < 2 ^ (64 * j) * g * val b := by omega
  have h2 := K.le
  refine Nat.lt_of_mul_lt_mul_right (a := val b * 2 ^ (64 * j)) ?_
  have e1 : qd * (val b * 2 ^ (64 * j)) = qd * val b * 2 ^ (64 * j) := by rw [Nat.mul_assoc]
  have e2 : g * (val b * 2 ^ (64 * j)) = 2 ^ (64 * j) * g * val b := by grind
  rw [e1, e2]; omega
theorem kd_exact {u u' b : List Int} {j qd g : Nat} (K : KD u b j qd) (hb : 0 < val b) (hq : qd ≤ g) (h : val u' + 2 ^ (64 * j) * g * val b = val u) : g = qd ∧ val u' < val b * 2 ^ (64 * j) := by
  have h1 := K.gt
  have e2 : g * (val b * 2 ^ (64 * j)) = 2 ^ (64 * j) * g * val b := by grind
  have h2 : g * (val b * 2 ^ (64 * j)) < (qd + 1) * (val b * 2 ^ (64 * j)) := by rw [e2, ← Nat.mul_assoc]; omega
  have h3 : g < qd + 1 := Nat.lt_of_mul_lt_mul_right h2
  have h4 : g = qd := by omega
  refine ⟨h4, ?_⟩
  subst h4
  grind
theorem kd_next {u u' q b : List Int} {j g A : Nat} (hj : j < q.length) (hI : A = val (q.drop (j + 1)) * val b * 2 ^ (64 * (j + 1)) + val u) (h : val u' + 2 ^ (64 * j) * g * val b = val u) :
    A = val ((q.set j (g : Int)).drop j) * val b * 2 ^ (64 * j) + val u' := by
  rw [drop_set_cons hj]
  have : val ((g : Int) :: q.drop (j + 1)) = g + 18446744073709551616 * val (q.drop (j + 1)) := by
    show (g : Int).toNat + 18446744073709551616 * val (q.drop (j + 1)) = _
    rw [Int.toNat_natCast]
  rw [this, hI, ← h, pow64_succ]
  grind
theorem tail_lt {u u' : List Int} {k : Nat} (lu : lim u) (lu' : lim u') (h : val u < 2 ^ (64 * k)) (hd : u'.drop k = u.drop k) : val u' < 2 ^ (64 * k) := by
  have h1 : val (u'.drop k) = 0 := by rw [hd, val_drop _ _ lu]; exact Nat.div_eq_of_lt h
  rw [val_drop _ _ lu'] at h1
  have h2 := Nat.div_add_mod (val u') (2 ^ (64 * k))
  rw [h1] at h2
  have h3 := Nat.mod_lt (val u') (Nat.two_pow_pos (64 * k))
  omega
theorem drop_succ_set {o u : List Int} {i : Nat} (v : Int) (h : o.drop i = u.drop i) : (o.set i v).drop (i + 1) = u.drop (i + 1) := by
  rw [drop_set_succ, drop_succ_of h]
theorem dec_eq {g v r X : Nat} (h : X = g * v + r) (hg : 1 ≤ g) : X = (g - 1) * v + (r + v) := by
  obtain ⟨p, rfl⟩ : ∃ p, g = p + 1 := ⟨g - 1, by omega⟩
  rw [h, Nat.add_sub_cancel]
  grind
theorem sub_word {pr : Nat} {c w : Nat} {x : Int} (h : pr ≤ 340282366920938463426481119284349108225) (hc : c < 18446744073709551616) (hw : w ≤ 1) (hx : 0 ≤ x ∧ x < 18446744073709551616) :
    ∃ c' w' s : Nat, ((((pr / 18446744073709551616 : Nat) : Int) + (((pr % 18446744073709551616 : Nat) : Int) + (c : Int) + 0) / 18446744073709551616) % 18446744073709551616 = (c' : Int)) ∧
      ((if x < (((pr % 18446744073709551616 : Nat) : Int) + (c : Int) + 0) % 18446744073709551616 + (w : Int) then (1 : Int) else 0) = (w' : Int)) ∧
      ((x - (((pr % 18446744073709551616 : Nat) : Int) + (c : Int) + 0) % 18446744073709551616 - (w : Int)) % 18446744073709551616 = (s : Int)) ∧
      s + pr + c + w = x.toNat + 18446744073709551616 * (c' + w') ∧ c' < 18446744073709551616 ∧ w' ≤ 1 ∧ s < 18446744073709551616 := by
  by_cases hlt : x < (((pr % 18446744073709551616 : Nat) : Int) + (c : Int) + 0) % 18446744073709551616 + (w : Int)
  · refine ⟨(pr + c) / 18446744073709551616, 1, x.toNat + 18446744073709551616 - (pr + c) % 18446744073709551616 - w, by omega, by rw [if_pos hlt]; rfl, ?_, ?_, ?_, ?_, ?_⟩ <;> omega
  · refine ⟨(pr + c) / 18446744073709551616, 0, x.toNat - (pr + c) % 18446744073709551616 - w, by omega, by rw [if_neg hlt]; rfl, ?_, ?_, ?_, ?_, ?_⟩ <;> omega
theorem sub_last {c w : Nat} {x : Int} (hc : c < 18446744073709551616) (hw : w ≤ 1) (hx : 0 ≤ x ∧ x < 18446744073709551616) :
    ∃ w' s : Nat, ((if x < (c : Int) + (w : Int) then (1 : Int) else 0) = (w' : Int)) ∧ ((x - (c : Int) - (w : Int)) % 18446744073709551616 = (s : Int)) ∧
      s + c + w = x.toNat + 18446744073709551616 * w' ∧ w' ≤ 1 ∧ s < 18446744073709551616 := by
  by_cases hlt : x < (c : Int) + (w : Int)
  · refine ⟨1, x.toNat + 18446744073709551616 - c - w, by rw [if_pos hlt]; rfl, ?_, ?_, ?_, ?_⟩ <;> omega
  · refine ⟨0, x.toNat - c - w, by rw [if_neg hlt]; rfl, ?_, ?_, ?_, ?_⟩ <;> omega
theorem add_word {c : Nat} {x y : Int} (hc : c ≤ 1) (hx : 0 ≤ x ∧ x < 18446744073709551616) (hy : 0 ≤ y ∧ y < 18446744073709551616) :
    ∃ c' s : Nat, ((x + y + (c : Int)) / 18446744073709551616 = (c' : Int)) ∧ ((x + y + (c : Int)) % 18446744073709551616 = (s : Int)) ∧ s + 18446744073709551616 * c' = x.toNat + y.toNat + c ∧ c' ≤ 1 ∧ s < 18446744073709551616 := by
  refine ⟨(x.toNat + y.toNat + c) / 18446744073709551616, (x.toNat + y.toNat + c) % 18446744073709551616, ?_, ?_, ?_, ?_, ?_⟩ <;> omega
theorem kd_back {U u2 v' b : List Int} {j P g c : Nat} (hg : 1 ≤ g) (hc : c ≤ 1) (h1 : val u2 + 2 ^ (64 * j) * g * val b = val U + 1 * P) (h2 : val v' + c * P = val u2 + 2 ^ (64 * j) * val b) :
    val v' + 2 ^ (64 * j) * (g - 1) * val b = val U + (1 - c) * P := by
  obtain ⟨p, rfl⟩ : ∃ p, g = p + 1 := ⟨g - 1, by omega⟩
  rw [Nat.add_sub_cancel]
  have hc2 : c = 0 ∨ c = 1 := by omega
  rcases hc2 with rfl | rfl <;> grind
end Go.AM.LN
set_option maxRecDepth 20000
namespace Go.AM.LN
/-! The invariants of the long division, hidden behind names. -/
def NB (b : List Int) : Prop := 2 ^ (64 * b.length - 1) ≤ val b
def QL (u b : List Int) (k g : Nat) : Prop := val u / (val b * 2 ^ (64 * (k - 1))) ≤ g
structure LO (a b u q : List Int) (k : Nat) : Prop where
  lu : lim u
  lq : lim q
  eq : val a = val (q.drop k) * val b * 2 ^ (64 * k) + val u
  lt : val u < val b * 2 ^ (64 * k)
structure LG (u b : List Int) (k g r : Nat) : Prop where
  ql : QL u b k g
  eq : (u.getD (k - 1 + b.length) 0).toNat * 18446744073709551616 + (u.getD (k - 1 + b.length - 1) 0).toNat = g * (b.getD (b.length - 1) 0).toNat + r
structure LM (u b : List Int) (k g i c w : Nat) (u' : List Int) : Prop where
  lu : lim u'
  dr : u'.drop (k - 1 + i) = u.drop (k - 1 + i)
  eq : val u' + 2 ^ (64 * (k - 1)) * g * val (b.take i) = val u + (c + w) * 2 ^ (64 * (k - 1 + i))
structure LY (u b : List Int) (k g w : Nat) (u' : List Int) : Prop where
  ql : QL u b k g
  lu : lim u'
  dr : u'.drop (k - 1 + b.length + 1) = u.drop (k - 1 + b.length + 1)
  eq : val u' + 2 ^ (64 * (k - 1)) * g * val b = val u + w * 2 ^ (64 * (k - 1 + (b.length + 1)))
structure LX (y b : List Int) (k i c : Nat) (u' : List Int) : Prop where
  lu : lim u'
  dr : u'.drop (k - 1 + i) = y.drop (k - 1 + i)
  eq : val u' + c * 2 ^ (64 * (k - 1 + i)) = val y + 2 ^ (64 * (k - 1)) * val (b.take i)
theorem lo_init {a b : List Int} (la : lim a) (h2 : 2 ≤ b.length) (hb : NB b) : LO a b (a ++ [0]) (List.replicate (a.length + 1 - b.length) 0) (a.length + 1 - b.length) :=
  ⟨lim_app.2 ⟨la, lim_one ⟨by omega, by omega⟩⟩, lim_rep _, by rw [List.drop_eq_nil_of_le (by simp), val_snoc]; simp [val], by rw [val_snoc]; simpa using kd_init la h2 hb⟩
theorem LO.kd {a b u q : List Int} {k : Nat} (h : LO a b u q k) (hk : 1 ≤ k) (lb : lim b) (h2 : 2 ≤ b.length) (hb : NB b) : KD u b (k - 1) (val u / (val b * 2 ^ (64 * (k - 1)))) :=
  kd_mk h.lu lb h2 hb (by rw [show k - 1 + 1 = k by omega]; exact h.lt)
theorem lg_init {a b u q : List Int} {k : Nat} (h : LO a b u q k) (hk : 1 ≤ k) (lb : lim b) (h2 : 2 ≤ b.length) (hb : NB b)
    (hlt : u.getD (k - 1 + b.length) 0 < b.getD (b.length - 1) 0) :
    (((u.getD (k - 1 + b.length) 0).toNat * 18446744073709551616 + (u.getD (k - 1 + b.length - 1) 0).toNat) / (b.getD (b.length - 1) 0).toNat < 18446744073709551616 ∧
    ((u.getD (k - 1 + b.length) 0).toNat * 18446744073709551616 + (u.getD (k - 1 + b.length - 1) 0).toNat) % (b.getD (b.length - 1) 0).toNat < 18446744073709551616) ∧
    LG u b k (((u.getD (k - 1 + b.length) 0).toNat * 18446744073709551616 + (u.getD (k - 1 + b.length - 1) 0).toNat) / (b.getD (b.length - 1) 0).toNat) (((u.getD (k - 1 + b.length) 0).toNat * 18446744073709551616 + (u.getD (k - 1 + b.length - 1) 0).toNat) % (b.getD (b.length - 1) 0).toNat) := by
  have K := h.kd hk lb h2 hb
  have h0 := lim_get h.lu (i := k - 1 + b.length)
  have h1 := lim_get h.lu (i := k - 1 + b.length - 1)
  have h3 := lim_get lb (i := b.length - 1)
  have hlt' : (u.getD (k - 1 + b.length) 0).toNat < (b.getD (b.length - 1) 0).toNat := by omega
  have ini := K.init hlt'
  have top := K.top
  refine ⟨⟨(Nat.div_lt_iff_lt_mul (by omega)).2 (by omega), Nat.lt_trans (Nat.mod_lt _ (by omega)) (by omega)⟩, ini, (Nat.div_add_mod' _ _).symm⟩
theorem lg_dec {a b u q : List Int} {k g r : Nat} (h : LO a b u q k) (hk : 1 ≤ k) (lb : lim b) (h2 : 2 ≤ b.length) (hb : NB b) (H : LG u b k g r)
    (ht : r * 18446744073709551616 + (u.getD (k - 1 + b.length - 2) 0).toNat < g * (b.getD (b.length - 2) 0).toNat) : 1 ≤ g ∧ LG u b k (g - 1) (r + (b.getD (b.length - 1) 0).toNat) := by
  have K := h.kd hk lb h2 hb
  have hg := K.great H.eq ht
  have hg1 : 1 ≤ g := by
    generalize val u / (val b * 2 ^ (64 * (k - 1))) = qd at *
    omega
  refine ⟨hg1, ?_, dec_eq H.eq hg1⟩
  have : val u / (val b * 2 ^ (64 * (k - 1))) ≤ g - 1 := by
    generalize val u / (val b * 2 ^ (64 * (k - 1))) = qd at *
    omega
  exact this
theorem ql_top {a b u q : List Int} {k : Nat} (h : LO a b u q k) (hk : 1 ≤ k) (lb : lim b) (h2 : 2 ≤ b.length) (hb : NB b) : QL u b k 18446744073709551615 := by
  have K := (h.kd hk lb h2 hb).ql
  have : val u / (val b * 2 ^ (64 * (k - 1))) ≤ 18446744073709551615 := by
    generalize val u / (val b * 2 ^ (64 * (k - 1))) = qd at *
    omega
  exact this
theorem lm_init {u b : List Int} {k g : Nat} (lu : lim u) : LM u b k g 0 0 0 u := ⟨lu, rfl, by simp [val]⟩
theorem lm_step {u b u' : List Int} {k g i c w c' w' s : Nat} (H : LM u b k g i c w u') (hj : k - 1 + i < u'.length) (hs : s < 18446744073709551616)
    (hw : s + g * (b.getD i 0).toNat + c + w = (u'.getD (k - 1 + i) 0).toNat + 18446744073709551616 * (c' + w')) : LM u b k g (i + 1) c' w' (u'.set (k - 1 + i) (s : Int)) :=
  ⟨lim_set H.lu (nat_lim hs) _, by rw [show k - 1 + (i + 1) = k - 1 + i + 1 by omega]; exact drop_succ_set _ H.dr, kd_sub hj H.eq hw⟩
theorem lm_last {u b u' : List Int} {k g c w w' s : Nat} (H : LM u b k g b.length c w u') (hq : QL u b k g) (hj : k - 1 + b.length < u'.length) (hs : s < 18446744073709551616)
    (hw : s + c + w = (u'.getD (k - 1 + b.length) 0).toNat + 18446744073709551616 * w') : LY u b k g w' (u'.set (k - 1 + b.length) (s : Int)) :=
  ⟨hq, lim_set H.lu (nat_lim hs) _, drop_succ_set _ H.dr, kd_last hj (by have := H.eq; rw [List.take_length] at this; exact this) hw⟩
theorem lx_init {y b : List Int} {k : Nat} (ly : lim y) : LX y b k 0 0 y := ⟨ly, rfl, by simp [val]⟩
theorem lx_step {y b u' : List Int} {k i c c' s : Nat} (H : LX y b k i c u') (hj : k - 1 + i < u'.length) (hs : s < 18446744073709551616)
    (hw : s + 18446744073709551616 * c' = (u'.getD (k - 1 + i) 0).toNat + (b.getD i 0).toNat + c) : LX y b k (i + 1) c' (u'.set (k - 1 + i) (s : Int)) :=
  ⟨lim_set H.lu (nat_lim hs) _, by rw [show k - 1 + (i + 1) = k - 1 + i + 1 by omega]; exact drop_succ_set _ H.dr, kd_add hj H.eq hw⟩
theorem ly_over {a b u q u' : List Int} {k g : Nat} (h : LO a b u q k) (hk : 1 ≤ k) (lb : lim b) (h2 : 2 ≤ b.length) (hb : NB b) (H : LY u b k g 1 u') : val u / (val b * 2 ^ (64 * (k - 1))) < g := by
  have K := h.kd hk lb h2 hb
  exact kd_over K H.lu (tail_lt h.lu H.lu K.ub H.dr) H.eq
theorem ly_pos {a b u q u' : List Int} {k g : Nat} (h : LO a b u q k) (hk : 1 ≤ k) (lb : lim b) (h2 : 2 ≤ b.length) (hb : NB b) (H : LY u b k g 1 u') : 1 ≤ g := by
  have := ly_over h hk lb h2 hb H
  generalize val u / (val b * 2 ^ (64 * (k - 1))) = qd at *
  omega
theorem lx_last {a b u q y u' : List Int} {k g c c' s : Nat} (h : LO a b u q k) (hk : 1 ≤ k) (lb : lim b) (h2 : 2 ≤ b.length) (hb : NB b) (H : LY u b k g 1 y) (X : LX y b k b.length c u') (hj : k - 1 + b.length < u'.length) (hs : s < 18446744073709551616) (hc : c' ≤ 1)
    (hw : s + 18446744073709551616 * c' = (u'.getD (k - 1 + b.length) 0).toNat + 0 + c) : LY u b k (g - 1) (1 - c') (u'.set (k - 1 + b.length) (s : Int)) := by
  have h1 := ly_over h hk lb h2 hb H
  have e := X.eq
  rw [List.take_length] at e
  have h3 := kd_addl (V := val b) hj e hw
  refine ⟨?_, lim_set X.lu (nat_lim hs) _, ?_, ?_⟩
  · have : val u / (val b * 2 ^ (64 * (k - 1))) ≤ g - 1 := by
      generalize val u / (val b * 2 ^ (64 * (k - 1))) = qd at *
      omega
    exact this
  · rw [drop_succ_set _ X.dr, H.dr]
  · refine kd_back ?_ hc H.eq h3
    generalize val u / (val b * 2 ^ (64 * (k - 1))) = qd at *
    omega
theorem lo_next {a b u q u' : List Int} {k g : Nat} (h : LO a b u q k) (hk : 1 ≤ k) (lb : lim b) (h2 : 2 ≤ b.length) (hb : NB b) (hg : g < 18446744073709551616) (H : LY u b k g 0 u') (hq : k - 1 < q.length) : LO a b u' (q.set (k - 1) (g : Int)) (k - 1) := by
  have K := h.kd hk lb h2 hb
  have e : val u' + 2 ^ (64 * (k - 1)) * g * val b = val u := by rw [H.eq, Nat.zero_mul, Nat.add_zero]
  have hbp : 0 < val b := Nat.lt_of_lt_of_le (Nat.two_pow_pos _) hb
  refine ⟨H.lu, lim_set h.lq (nat_lim hg) _, kd_next hq (by rw [show k - 1 + 1 = k by omega]; exact h.eq) e, (kd_exact K hbp H.ql e).2⟩
theorem lo_fin {a b u q : List Int} (h : LO a b u q 0) (lb : lim b) (hb : NB b) : val q = val a / val b ∧ val u = val a % val b ∧ sz (u.take b.length) = sz u := by
  have hbp : 0 < val b := Nat.lt_of_lt_of_le (Nat.two_pow_pos _) hb
  have e := h.eq
  have l := h.lt
  rw [List.drop_zero, Nat.mul_zero, Nat.pow_zero, Nat.mul_one] at *
  have d := dm_add _ _ _ _ hbp l e
  exact ⟨d.1.symm, d.2.symm, sz_take_eq h.lu (Nat.lt_trans l (val_lt lb))⟩
end Go.AM.LN
set_option maxRecDepth 20000
namespace Go.AM.LN
theorem len_shift {a s : Nat} (hs : s ≤ 63) : (limbs (a * 2 ^ s)).length ≤ (limbs a).length + 1 := by
  refine len_le_of (Nat.lt_of_lt_of_le (Nat.mul_lt_mul_of_pos_right (lt_of_len (Nat.le_refl _)) (Nat.two_pow_pos s)) ?_)
  rw [← Nat.pow_add]
  exact Nat.pow_le_pow_right (by omega) (by omega)
theorem norm_len {b : List Int} {sh : Nat} (lb : lim b) (hs : sz b = b.length) (h2 : 2 ≤ b.length) (he : 64 - blen (b.getD (b.length - 1) 0).toNat = sh) : (limbs (val b * 2 ^ sh)).length = b.length ∧ NB (limbs (val b * 2 ^ sh)) := by
  obtain ⟨h1, h3⟩ := norm_top lb hs h2
  rw [he] at h1 h3
  have h4 := len_le_of h3
  have h5 : b.length ≤ (limbs (val b * 2 ^ sh)).length := by
    refine Classical.byContradiction fun hn => ?_
    have h6 := lt_of_len (n := val b * 2 ^ sh) (k := b.length - 1) (by omega)
    have h7 : 2 ^ (64 * (b.length - 1)) ≤ 2 ^ (64 * b.length - 1) := Nat.pow_le_pow_right (by omega) (by omega)
    omega
  have h6 : (limbs (val b * 2 ^ sh)).length = b.length := by omega
  exact ⟨h6, by unfold NB; rw [h6, val_limbs]; exact h1⟩
theorem shift_back {a b s : Nat} : a * 2 ^ s / (b * 2 ^ s) = a / b ∧ a * 2 ^ s % (b * 2 ^ s) / 2 ^ s = a % b := by
  refine ⟨Nat.mul_div_mul_right _ _ (Nat.two_pow_pos s), ?_⟩
  rw [Nat.mul_mod_mul_right, Nat.mul_div_cancel _ (Nat.two_pow_pos s)]
theorem val_one_word {b : List Int} (h : b.length = 1) : val b = (b.getD 0 0).toNat := by
  match b, h with
  | [x], _ => simp [val]
end Go.AM.LN
set_option maxRecDepth 20000
namespace Go.AM.LN
def upS (dir : Int) (sign odd : Bool) (half : Int) : Bool := if dir = 0 then decide (half > 0) || (half == 0 && odd) else if dir = 1 then decide (half ≥ 0) else if dir = 3 then !sign else if dir = 4 then sign else false
def divS (dir : Int) (sign : Bool) (x y : Nat) : Nat × Bool := if x % y = 0 then (x / y, true) else (if upS dir sign (x / y % 2 == 1) (cmpI (x % y) (y - x % y)) then x / y + 1 else x / y, false)
theorem divS_ex {d : Int} {s : Bool} {x y : Nat} (h : x % y = 0) : divS d s x y = (x / y, true) := if_pos h
theorem divS_up {d : Int} {s : Bool} {x y : Nat} (h : ¬ x % y = 0) (hu : upS d s (x / y % 2 == 1) (cmpI (x % y) (y - x % y)) = true) : divS d s x y = (x / y + 1, false) := by
  unfold divS; rw [if_neg h, if_pos hu]
theorem divS_dn {d : Int} {s : Bool} {x y : Nat} (h : ¬ x % y = 0) (hu : upS d s (x / y % 2 == 1) (cmpI (x % y) (y - x % y)) = false) : divS d s x y = (x / y, false) := by
  unfold divS; rw [if_neg h, if_neg (by rw [hu]; exact Bool.false_ne_true)]
theorem odd0 {q : Nat} (h : q = 0) : (q % 2 == 1) = false := by subst h; rfl

def infS (d : Int) (s : Bool) : Bool := if d = 0 then true else if d = 1 then true else if d = 3 then !s else if d = 4 then s else false

end Go.AM.LN
set_option maxRecDepth 20000
namespace Go.AM.LN
open Go
/-! The twelve formats. -/
def fnm (n : Int) : ByteArray := ([⟨#[]⟩, ⟨#[72, 97, 108, 102]⟩, ⟨#[66, 114, 97, 105, 110]⟩, ⟨#[83, 105, 110, 103, 108, 101]⟩, ⟨#[68, 111, 117, 98, 108, 101]⟩, ⟨#[81, 117, 97, 100]⟩, ⟨#[79, 99, 116, 111]⟩, ⟨#[80, 108, 97, 105, 110, 51, 50]⟩, ⟨#[80, 108, 97, 105, 110, 54, 52]⟩, ⟨#[80, 108, 97, 105, 110, 49, 50, 56]⟩, ⟨#[68, 101, 110, 115, 101, 51, 50]⟩, ⟨#[68, 101, 110, 115, 101, 54, 52]⟩, ⟨#[68, 101, 110, 115, 101, 49, 50, 56]⟩] : List ByteArray).getD n.toNat ⟨#[]⟩
def fp (n : Int) : Int := [0, 11, 8, 24, 53, 113, 241, 7, 16, 34, 7, 16, 34].getD n.toNat 0
def fx (n : Int) : Int := [0, 5, 8, 8, 11, 15, 15, 96, 384, 6144, 96, 384, 6144].getD n.toNat 0
def fe (n : Int) : Int := [0, 15, 127, 127, 1023, 16383, 16383, 96, 384, 6144, 96, 384, 6144].getD n.toNat 0
def fb (n : Int) : Int := [0, 2, 2, 2, 2, 2, 2, 10, 10, 10, 10, 10, 10].getD n.toNat 0
def fw (n : Int) : Int := [0, 16, 16, 32, 64, 128, 256, 32, 64, 128, 32, 64, 128].getD n.toNat 0
def fl (n : Int) : Int := [0, 9, 6, 22, 51, 111, 239, 6, 15, 33, 6, 15, 33].getD n.toNat 0
def fd (n : Int) : Bool := decide (10 ≤ n)
def infoT (n : Int) : Value := .agg #[.int .i64 n, .string (fnm n), .int .i64 (fb n), .int .i64 (fw n), .int .i64 (fp n), .int .i64 (fx n), .int .i64 (2 - fe n - fp n), .int .i64 (fe n + 1 - fp n), .int .i64 (fl n), .bool (fd n)]
def infoZ : Value := .agg #[.int .i64 0, .string ⟨#[]⟩, .int .i64 0, .int .i64 0, .int .i64 0, .int .i64 0, .int .i64 0, .int .i64 0, .int .i64 0, .bool false]
def infoV (n : Int) : Value := if 1 ≤ n ∧ n ≤ 12 then infoT n else infoZ
def errV (n : Int) : Int := if 1 ≤ n ∧ n ≤ 12 then 0 else 1
theorem infoV_in {n : Int} (h : 1 ≤ n ∧ n ≤ 12) : infoV n = infoT n := if_pos h
theorem infoV_out {n : Int} (h : ¬ (1 ≤ n ∧ n ≤ 12)) : infoV n = infoZ := if_neg h
theorem errV_in {n : Int} (h : 1 ≤ n ∧ n ≤ 12) : errV n = 0 := if_pos h
theorem errV_out {n : Int} (h : ¬ (1 ≤ n ∧ n ≤ 12)) : errV n = 1 := if_neg h
/-- What is known of a binary format. -/
structure BF (n : Int) : Prop where
  p8 : 8 ≤ fp n
  p241 : fp n ≤ 241
  x5 : 5 ≤ fx n
  x15 : fx n ≤ 15
  e15 : 15 ≤ fe n
  e16 : fe n ≤ 16383
  b2 : fb n = 2
  w : fw n = fp n + fx n
  l : fl n = fp n - 2
  ee : (2 : Int) ^ (fx n).toNat = 2 * fe n + 2
  nd : fd n = false
theorem bfmt {n : Int} (h : 1 ≤ n ∧ n ≤ 6) : BF n := by
  have hn : n = 1 ∨ n = 2 ∨ n = 3 ∨ n = 4 ∨ n = 5 ∨ n = 6 := by omega
  rcases hn with rfl | rfl | rfl | rfl | rfl | rfl <;> exact ⟨by decide, by decide, by decide, by decide, by decide, by decide, by decide, by decide, by decide, by decide, by decide⟩
theorem dfmt {n : Int} (h : 7 ≤ n ∧ n ≤ 12) : fb n = 10 := by
  have hn : n = 7 ∨ n = 8 ∨ n = 9 ∨ n = 10 ∨ n = 11 ∨ n = 12 := by omega
  rcases hn with rfl | rfl | rfl | rfl | rfl | rfl <;> rfl
def okB (n : Int) (V : Nat) : Bool := decide (1 ≤ n ∧ n ≤ 6) && decide ((blen V : Int) ≤ fw n)
/-! Patterns. -/
def eS (cl n : Int) (C : Nat) (ex : Int) : Int := if cl = 1 then (if (blen C : Int) = fp n then ex - (2 - fe n - fp n) + 1 else 0) else 2 ^ (fx n).toNat - 1
def packF (n cl : Int) (si : Bool) (C : Nat) : Nat := if cl = 3 ∧ si = false then C % 2 ^ (fp n - 1).toNat ||| (1 * 2 ^ (fp n - 2).toNat % 2 ^ 256) else C % 2 ^ (fp n - 1).toNat
def packB (n cl : Int) (si : Bool) (C : Nat) (ex : Int) : Nat := packF n cl si C ||| ((eS cl n C ex).toNat * 2 ^ (fp n - 1).toNat % 2 ^ 256)
def packS (n cl : Int) (sg si : Bool) (C : Nat) (ex : Int) : Nat := if sg then packB n cl si C ex ||| (1 * 2 ^ (fw n - 1).toNat % 2 ^ 256) else packB n cl si C ex
/-- packS, the field X being known. -/
def packX (n cl : Int) (sg si : Bool) (C X : Nat) (ex : Int) : Nat :=
  let B := (if cl = 3 ∧ si = false then X ||| (1 * 2 ^ (fp n - 2).toNat % 2 ^ 256) else X) ||| ((eS cl n C ex).toNat * 2 ^ (fp n - 1).toNat % 2 ^ 256)
  if sg then B ||| (1 * 2 ^ (fw n - 1).toNat % 2 ^ 256) else B
/-- A datum of a format. -/
def isD (n cl : Int) (si : Bool) (C : Nat) (ex : Int) : Prop :=
  (cl = 1 ∧ si = false ∧ 2 - fe n - fp n ≤ ex ∧ ex ≤ fe n + 1 - fp n ∧ ((blen C : Int) = fp n ∨ ((blen C : Int) < fp n ∧ ex = 2 - fe n - fp n))) ∨
  (cl = 2 ∧ si = false ∧ blen C = 0 ∧ ex = 0) ∨ (cl = 3 ∧ ex = 0 ∧ (blen C : Int) ≤ fl n ∧ (blen C ≠ 0 ∨ si = false))
theorem V4_x (x : Int) : V4 x 0 0 0 = x.toNat := by unfold V4; simp [val]
theorem or_lt {x y : Nat} (hx : x < 2 ^ 256) (hy : y < 2 ^ 256) : x ||| y < 2 ^ 256 := Nat.or_lt_two_pow hx hy
theorem mod_lt256 (x : Nat) : x % 2 ^ 256 < 2 ^ 256 := Nat.mod_lt _ (Nat.two_pow_pos _)
theorem w4_small {E : Nat} (h : E < 18446744073709551616) : w4 E 0 = (E : Int) := by
  unfold w4; rw [Nat.mul_zero, Nat.pow_zero, Nat.div_one, Nat.mod_eq_of_lt h]
theorem w4_zero (i : Nat) : w4 0 i = 0 := by unfold w4; simp
theorem V4_zero {a b c d : Int} (ha : 0 ≤ a) (hb : 0 ≤ b) (hc : 0 ≤ c) (hd : 0 ≤ d) : (a == 0 && (b == 0 && (c == 0 && d == 0))) = decide (V4 a b c d = 0) := by
  have h := V4_int ha hb hc hd
  rw [Bool.eq_iff_iff]
  simp only [Bool.and_eq_true, beq_iff_eq, decide_eq_true_eq]
  omega
/-! What a pattern means. -/
def uE (n : Int) (V : Nat) : Nat := V / 2 ^ (fp n - 1).toNat % 2 ^ (fx n).toNat
def uF (n : Int) (V : Nat) : Nat := V % 2 ^ (fp n - 1).toNat
def uS (n : Int) (V : Nat) : Bool := V / 2 ^ (fw n - 1).toNat % 2 == 1
def uC (n : Int) (V : Nat) : Int := if (uE n V : Int) < 2 ^ (fx n).toNat - 1 then 1 else if uF n V = 0 then 2 else 3
def uQ (n : Int) (V : Nat) : Bool := decide (uC n V = 3) && (V / 2 ^ (fp n - 2).toNat % 2 == 0)
def uX (n : Int) (V : Nat) : Int := if uC n V = 1 then 2 - fe n - fp n + max ((uE n V : Int) - 1) 0 else 0
def uV (n : Int) (V : Nat) : Nat := if uC n V = 1 then (if uE n V = 0 then uF n V else uF n V ||| 1 * 2 ^ (fp n - 1).toNat % 2 ^ 256) else if uC n V = 2 then 0 else uF n V % 2 ^ (fp n - 2).toNat
end Go.AM.LN
set_option maxRecDepth 20000
namespace Go.Proofs.AMT
open Go.AM Go.AM.LN
attribute [local congr] bindO_congr bindS_congr bindG_congr awpOps_congr aOne_congr awp_congr aCond_congr awpD_congr dOne_congr keysB_congr nOne_congr thenP_congr blockP_congr Chk_congr Brk_congr
noncomputable def s40 : CSpec := fun ds => match ds with
  | [.v (.int .i64 n)] => some (True, .many [.v (infoV n), .v (.int .i64 (errV n))])
  | _ => none
theorem s40_eq (n : Int) : norm s40 [.v (.int .i64 n)] = some (True, .many [.v (infoV n), .v (.int .i64 (errV n))]) := rfl
noncomputable def G40 : Gam := []
theorem G40_ok : GamOk Tryz.prog G40 := gamOk_nil
noncomputable def ofR (n : Int) : Option (Prop × Res) := (lk (GamN ty 1000 bodies extB 10) 40).bind fun s => s.2 [.v (.int .i64 n)]
theorem ofR_1 : ofR 1 = some (True, .many [.v (infoT 1), .v (.int .i64 0)]) := by kernel_rfl
theorem ofR_2 : ofR 2 = some (True, .many [.v (infoT 2), .v (.int .i64 0)]) := by kernel_rfl
theorem ofR_3 : ofR 3 = some (True, .many [.v (infoT 3), .v (.int .i64 0)]) := by kernel_rfl
theorem ofR_4 : ofR 4 = some (True, .many [.v (infoT 4), .v (.int .i64 0)]) := by kernel_rfl
theorem ofR_5 : ofR 5 = some (True, .many [.v (infoT 5), .v (.int .i64 0)]) := by kernel_rfl
theorem ofR_6 : ofR 6 = some (True, .many [.v (infoT 6), .v (.int .i64 0)]) := by kernel_rfl
theorem ofR_7 : ofR 7 = some (True, .many [.v (infoT 7), .v (.int .i64 0)]) := by kernel_rfl
theorem ofR_8 : ofR 8 = some (True, .many [.v (infoT 8), .v (.int .i64 0)]) := by kernel_rfl
theorem ofR_9 : ofR 9 = some (True, .many [.v (infoT 9), .v (.int .i64 0)]) := by kernel_rfl
theorem ofR_10 : ofR 10 = some (True, .many [.v (infoT 10), .v (.int .i64 0)]) := by kernel_rfl
theorem ofR_11 : ofR 11 = some (True, .many [.v (infoT 11), .v (.int .i64 0)]) := by kernel_rfl
theorem ofR_12 : ofR 12 = some (True, .many [.v (infoT 12), .v (.int .i64 0)]) := by kernel_rfl
set_option maxHeartbeats 20000000 in
theorem wk40 (n : Int) (hp : ¬ (1 ≤ n ∧ n ≤ 12)) : awp ty G40 (code Tryz.f40) (retP ty Tryz.f40.results.toList (.many [.v infoZ, .v (.int .i64 1)])) (entry 0 [.v (.int .i64 n)]) [] := by
  unfold code
  simp only [Tryz.f40, Option.getD_some]
  have hn : n < 1 ∨ (¬ n < 1 ∧ n > 12) := by omega
  rcases hn with h | h
  all_goals first
    | (have g1 : decide (n < 1) = true := by simp only [decide_eq_true_eq]; omega)
    | (have g1 : decide (n < 1) = false := by simp only [decide_eq_false_iff_not]; omega)
    | (have g1 : decide ((4 : Int) ≥ 5) = false := rfl)
  all_goals first
    | (have g2 : decide (n > 12) = true := by simp only [decide_eq_true_eq]; omega)
    | (have g2 : decide (n > 12) = false := by simp only [decide_eq_false_iff_not]; omega)
    | (have g2 : decide ((4 : Int) ≥ 5) = false := rfl)
  all_goals repeat' (first
    | ((first
       | (with_reducible refine ops_k ?_; intro X hX)
       | (with_reducible refine opsN_k ?_; intro X hX)
       | (with_reducible show awp _ _ _ _ (keepL _ _) _)
       | with_reducible refine awp_cond_k ?_
       | (with_reducible refine Brk_i ?_ ?_ <;> intro hb <;> (try simp only [hb]) <;> have hq := hb <;> try simp only [decide_eq_true_eq, decide_eq_false_iff_not, gt_iff_lt, ge_iff_le, Int.not_lt, Int.not_le, beq_iff_eq, beq_eq_false_iff_ne, Bool.not_eq_true', Bool.not_eq_false', Bool.and_eq_true, Bool.or_eq_true, Bool.and_eq_false_imp, Bool.or_eq_false_iff, ne_eq, Classical.not_not] at hq)
       | with_reducible refine retP_ret_i ?_
       | with_reducible refine retP_normal_i ?_
       | (with_reducible (show bindG _ _ _ _ _); simp only [hall])) <;> try simp only [Go.AM.S1, Go.AM.S2, Go.AM.S3, Go.AM.S4, Go.AM.S5, Go.AM.S6, Go.AM.S7, Go.AM.S8, Go.AM.S9, Nat.reduceAdd, Nat.reduceMul, Nat.reduceSub, ↓reduceIte, Nat.reduceEqDiff, Nat.reduceLT, Nat.reduceLeDiff, reduceCtorEq, Int.reduceBEq, Int.reduceBNe, Nat.reduceBEq, Int.reduceEq, Int.reduceToNat, Int.reduceLE, Int.reduceLT, Nat.reduceDiv, Int.reduceAdd, Int.reduceSub, Int.reduceMul, Int.reduceNeg, Int.reduceGT, Int.reduceGE, Nat.reduceMod, ty_3, ty_4, ty_9, ty_46, ty_88, g1, g2])
    | (with_reducible refine hX _ _ ?_; clear hX X)
    | (with_reducible refine ops_nil_i ?_; try clear hall all)
    | (with_reducible refine opsN_nil_i ?_; try clear hall all)
    | (with_reducible refine hK _ _ ?_; clear hK K)
    | with_reducible refine thenP_normal_i ?_
    | (with_reducible refine zzr3 _ _ ?_; try clear zzr3 Kzzr3)
    | (with_reducible refine zzsr1 _ _ ?_; try clear zzsr1 Kzzsr1)
    | (with_reducible refine zzr2 _ _ ?_; try clear zzr2 Kzzr2)
    | (with_reducible refine zzr1 _ _ ?_; try clear zzr1 Kzzr1)
    | (with_reducible refine zzr0 _ _ ?_; try clear zzr0 Kzzr0)
    | (with_reducible refine awp_seq_l (a := .region 3 _ _) [2, 3] ?_; intro Kzzr3 zzr3)
    | (with_reducible refine awp_seq_l (a := .seq (.region 1 _ _) _) [0, 2] ?_; intro Kzzsr1 zzsr1)
    | (with_reducible refine awp_seq_l (a := .region 2 _ _) [2, 3] ?_; intro Kzzr2 zzr2)
    | (with_reducible refine awp_seq_l (a := .region 1 _ _) [0, 2, 9] ?_; intro Kzzr1 zzr1)
    | (with_reducible refine awp_seq_l (a := .region 0 _ _) [0, 2] ?_; intro Kzzr0 zzr0)
    | (with_reducible refine awp_seq_k ?_; intro K hK)
    | (with_reducible refine awp_region_a ?_; intro all hall K hK)
    | (with_reducible refine awp_draw_n ?_ ?_; kernel_rfl; intro all hall K hK)
    | (with_reducible refine Chk_i ?_ ?_)
    | (with_reducible refine keysC_i ?_; kernel_rfl)
    | (with_reducible first | refine awp_block_i ?_ | refine awp_skip_i ?_ | refine awp_ret_i ?_ | refine awp_exit_i ?_ | refine thenP_ret_i ?_ | refine thenP_exit_i ?_ | refine lpP_ret_i ?_ | refine lpP_exit_i ?_ | refine unrP_succ_i ?_ | refine unrP_ret_i ?_ | refine unrP_exit_i ?_ | refine blockP_normal_i ?_ | refine blockP_ret_i ?_)
    | (with_reducible refine blockP_exit_i ?_; simp only [↓reduceIte, Nat.reduceEqDiff])
    | with_reducible refine lpP_normal_i ?_)
  all_goals (try clear zzr0; try clear Kzzr0)
  all_goals (try clear zzr1; try clear Kzzr1)
  all_goals (try clear zzr2; try clear Kzzr2)
  all_goals (try clear zzsr1; try clear Kzzsr1)
  all_goals (try clear zzr3; try clear Kzzr3)
  all_goals rfl
noncomputable def s40w : CSpec := fun ds => match ds with
  | [.v (.int .i64 n)] => some (¬ (1 ≤ n ∧ n ≤ 12), .many [.v infoZ, .v (.int .i64 1)])
  | _ => none
theorem sound_40w : Sound Tryz.prog 40 .body s40w := by
  refine sound_body Tryz.func40 (show Tryz.f40.body = some (code Tryz.f40) from rfl) (by kernel_rfl) tysOk G40_ok (drawOk_ok (by kernel_rfl) tysOk G40_ok) (by kernel_rfl) fun ds p r hs hp => ?_
  unfold s40w at hs
  split at hs
  · cases hs; exact ⟨Nat.le_of_ble_eq_true (by kernel_rfl), wk40 _ hp⟩
  · cases hs
theorem sound_40c : ∀ n : Int, 1 ≤ n ∧ n ≤ 12 → ∃ spec : CSpec, Sound Tryz.prog 40 .body spec ∧ spec [.v (.int .i64 n)] = some (True, .many [.v (infoT n), .v (.int .i64 0)]) := by
  intro n hn
  have hg := (GamN_ok (fuel := 1000) (P := Tryz.prog) (by kernel_rfl) tysOk extB_ok extB_free bodies_ok bodies_some 10).1
  have h : ofR n = some (True, .many [.v (infoT n), .v (.int .i64 0)]) := by
    have hn' : n = 1 ∨ n = 2 ∨ n = 3 ∨ n = 4 ∨ n = 5 ∨ n = 6 ∨ n = 7 ∨ n = 8 ∨ n = 9 ∨ n = 10 ∨ n = 11 ∨ n = 12 := by omega
    rcases hn' with rfl | rfl | rfl | rfl | rfl | rfl | rfl | rfl | rfl | rfl | rfl | rfl
    · exact ofR_1
    · exact ofR_2
    · exact ofR_3
    · exact ofR_4
    · exact ofR_5
    · exact ofR_6
    · exact ofR_7
    · exact ofR_8
    · exact ofR_9
    · exact ofR_10
    · exact ofR_11
    · exact ofR_12
  unfold ofR at h
  obtain ⟨⟨fk, spec⟩, h1, h2⟩ := Option.bind_eq_some_iff.1 h
  have hs := hg 40 fk spec h1
  have hfk : fk = .body := by
    have : (lk (GamN ty 1000 bodies extB 10) 40).map (·.1) = some .body := by kernel_rfl
    rw [h1] at this
    exact Option.some.inj this
  subst hfk
  exact ⟨spec, hs, h2⟩
theorem sound_40 : Sound Tryz.prog 40 .body (norm s40) := by
  refine sound_norm ?_
  obtain ⟨fn, h1, h2, h3, h4⟩ := sound_40w
  refine ⟨fn, h1, h2, h3, fun ds p r hs hp w vs hr => ?_⟩
  unfold s40 at hs
  split at hs
  · rename_i n
    cases hs
    by_cases hn : 1 ≤ n ∧ n ≤ 12
    · obtain ⟨spec, ⟨fn', h1', h2', h3', h4'⟩, h5⟩ := sound_40c n hn
      rw [infoV_in hn, errV_in hn]
      exact h4' _ _ _ h5 trivial w vs hr
    · rw [infoV_out hn, errV_out hn]
      exact h4 _ _ _ rfl hn w vs hr
  · cases hs
end Go.Proofs.AMT
set_option maxRecDepth 20000
namespace Go.Proofs.AMT
open Go.AM Go.AM.LN
attribute [local congr] bindO_congr bindS_congr bindG_congr awpOps_congr aOne_congr awp_congr aCond_congr awpD_congr dOne_congr keysB_congr nOne_congr thenP_congr blockP_congr Chk_congr Brk_congr
noncomputable def s19 : CSpec := fun ds => match ds with
  | [.v (.int .i64 n), .v (.agg ⟨[.int .u64 b0, .int .u64 b1, .int .u64 b2, .int .u64 b3]⟩)] => some ((0 ≤ b0 ∧ b0 < 18446744073709551616) ∧ (0 ≤ b1 ∧ b1 < 18446744073709551616) ∧ (0 ≤ b2 ∧ b2 < 18446744073709551616) ∧ (0 ≤ b3 ∧ b3 < 18446744073709551616), .many [.v (infoV n), .v (.bool (okB n (V4 b0 b1 b2 b3)))])
  | _ => none
theorem s19_eq (n : Int) (b0 b1 b2 b3 : Int) : norm s19 [.v (.int .i64 n), .v (.agg #[.int .u64 b0, .int .u64 b1, .int .u64 b2, .int .u64 b3])] = some ((0 ≤ b0 ∧ b0 < 18446744073709551616) ∧ (0 ≤ b1 ∧ b1 < 18446744073709551616) ∧ (0 ≤ b2 ∧ b2 < 18446744073709551616) ∧ (0 ≤ b3 ∧ b3 < 18446744073709551616), .many [.v (infoV n), .v (.bool (okB n (V4 b0 b1 b2 b3)))]) := rfl
noncomputable def G19 : Gam := [(9, .body, norm s9), (40, .body, norm s40)]
theorem G19_ok : GamOk Tryz.prog G19 := gamOk_cons sound_9 (gamOk_cons sound_40 gamOk_nil)
theorem k19_9 : lk G19 9 = some (.body, norm s9) := rfl
theorem k19_40 : lk G19 40 = some (.body, norm s40) := rfl
set_option maxHeartbeats 20000000 in
theorem wk19 (n : Int) (b0 b1 b2 b3 : Int) (hp : (0 ≤ b0 ∧ b0 < 18446744073709551616) ∧ (0 ≤ b1 ∧ b1 < 18446744073709551616) ∧ (0 ≤ b2 ∧ b2 < 18446744073709551616) ∧ (0 ≤ b3 ∧ b3 < 18446744073709551616)) : awp ty G19 (code Tryz.f19) (retP ty Tryz.f19.results.toList (.many [.v (infoV n), .v (.bool (okB n (V4 b0 b1 b2 b3)))])) (entry 0 [.v (.int .i64 n), .v (.agg #[.int .u64 b0, .int .u64 b1, .int .u64 b2, .int .u64 b3])]) [] := by
  unfold code
  simp only [Tryz.f19, Option.getD_some]
  have hn : (1 ≤ n ∧ n ≤ 6) ∨ (7 ≤ n ∧ n ≤ 12) ∨ ¬ (1 ≤ n ∧ n ≤ 12) := by omega
  rcases hn with h | h | h
  all_goals first
    | (have hI := infoV_in (n := n) (by omega))
    | (have hI := infoV_out h)
  all_goals first
    | (have hE := errV_in (n := n) (by omega))
    | (have hE := errV_out h)
  all_goals first
    | (have g1 : (fb n == 2) = true := by rw [(bfmt h).b2]; rfl)
    | (have g1 : (fb n == 2) = false := by rw [dfmt h]; rfl)
    | (have g1 : decide ((4 : Int) ≥ 5) = false := rfl)
  all_goals first
    | (have hO : okB n (V4 b0 b1 b2 b3) = decide ((blen (V4 b0 b1 b2 b3) : Int) ≤ fw n) := by unfold okB; rw [decide_eq_true h, Bool.true_and])
    | (have hO : okB n (V4 b0 b1 b2 b3) = false := by unfold okB; rw [decide_eq_false (by omega), Bool.false_and])
  all_goals repeat' (first
    | ((first
       | (with_reducible refine ops_k ?_; intro X hX)
       | (with_reducible refine opsN_k ?_; intro X hX)
       | (with_reducible show awp _ _ _ _ (keepL _ _) _)
       | (with_reducible refine hX _ _ _ _ ?_; clear hX X)
       | (with_reducible refine opsD_k ?_; intro X hX)
       | with_reducible refine awp_cond_k ?_
       | (with_reducible refine Brk_i ?_ ?_ <;> intro hb <;> (try simp only [hb]) <;> have hq := hb <;> try simp only [decide_eq_true_eq, decide_eq_false_iff_not, gt_iff_lt, ge_iff_le, Int.not_lt, Int.not_le, beq_iff_eq, beq_eq_false_iff_ne, Bool.not_eq_true', Bool.not_eq_false', Bool.and_eq_true, Bool.or_eq_true, Bool.and_eq_false_imp, Bool.or_eq_false_iff, ne_eq, Classical.not_not] at hq)
       | with_reducible refine retP_ret_i ?_
       | with_reducible refine retP_normal_i ?_
       | (with_reducible (show bindG _ _ _ _ _); simp only [hall])) <;> try simp only [Go.AM.S1, Go.AM.S2, Go.AM.S3, Go.AM.S4, Go.AM.S5, Go.AM.S6, Go.AM.S7, Go.AM.S8, Go.AM.S9, Nat.reduceAdd, Nat.reduceMul, Nat.reduceSub, ↓reduceIte, Nat.reduceEqDiff, Nat.reduceLT, Nat.reduceLeDiff, reduceCtorEq, Int.reduceBEq, Int.reduceBNe, Nat.reduceBEq, Int.reduceEq, Int.reduceToNat, Int.reduceLE, Int.reduceLT, Nat.reduceDiv, Int.reduceAdd, Int.reduceSub, Int.reduceMul, Int.reduceNeg, Int.reduceGT, Int.reduceGE, Nat.reduceMod, k19_9, s9_eq, k19_40, s40_eq, ty_3, ty_4, ty_9, ty_22, ty_23, ty_24, ty_26, ty_46, hI, hE, g1, hO, infoT, infoZ])
    | (with_reducible refine hX _ _ ?_; clear hX X)
    | (with_reducible refine opsD_nil_i ?_; try clear hall all)
    | (with_reducible refine keysB_i ?_; kernel_rfl)
    | ((with_reducible show clashK _ _ _ = true); kernel_rfl)
    | (with_reducible refine ops_nil_i ?_; try clear hall all)
    | (with_reducible refine opsN_nil_i ?_; try clear hall all)
    | (with_reducible refine hK _ _ ?_; clear hK K)
    | with_reducible refine thenP_normal_i ?_
    | (with_reducible refine zzr2 _ _ ?_; try clear zzr2 Kzzr2)
    | (with_reducible refine zzr1 _ _ ?_; try clear zzr1 Kzzr1)
    | (with_reducible refine zzr0 _ _ ?_; try clear zzr0 Kzzr0)
    | (with_reducible refine awp_seq_l (a := .region 2 _ _) [4, 5] ?_; intro Kzzr2 zzr2)
    | (with_reducible refine awp_seq_l (a := .region 1 _ _) [3, 4, 6, 7] ?_; intro Kzzr1 zzr1)
    | (with_reducible refine awp_seq_l (a := .region 0 _ _) [0, 3, 4] ?_; intro Kzzr0 zzr0)
    | (with_reducible refine awp_seq_k ?_; intro K hK)
    | (with_reducible refine awp_region_a ?_; intro all hall K hK)
    | (with_reducible refine awp_draw_a (id := 2) ?_ ?_; kernel_rfl; intro all hall K hK)
    | (with_reducible refine awp_draw_n ?_ ?_; kernel_rfl; intro all hall K hK)
    | (with_reducible refine Chk_i ?_ ?_)
    | (with_reducible refine keysC_i ?_; kernel_rfl)
    | (with_reducible first | refine awp_block_i ?_ | refine awp_skip_i ?_ | refine awp_ret_i ?_ | refine awp_exit_i ?_ | refine thenP_ret_i ?_ | refine thenP_exit_i ?_ | refine lpP_ret_i ?_ | refine lpP_exit_i ?_ | refine unrP_succ_i ?_ | refine unrP_ret_i ?_ | refine unrP_exit_i ?_ | refine blockP_normal_i ?_ | refine blockP_ret_i ?_)
    | (with_reducible refine blockP_exit_i ?_; simp only [↓reduceIte, Nat.reduceEqDiff])
    | with_reducible refine lpP_normal_i ?_)
  all_goals (try clear zzr0; try clear Kzzr0)
  all_goals (try clear zzr1; try clear Kzzr1)
  all_goals (try clear zzr2; try clear Kzzr2)
  all_goals first
    | omega
    | exact hp
    | skip
theorem sound_19 : Sound Tryz.prog 19 .body (norm s19) := by
  refine sound_norm (sound_body Tryz.func19 (show Tryz.f19.body = some (code Tryz.f19) from rfl) (by kernel_rfl) tysOk G19_ok (drawOk_ok (by kernel_rfl) tysOk G19_ok) (by kernel_rfl) fun ds p r hs hp => ?_)
  unfold s19 at hs
  split at hs
  · cases hs; exact ⟨Nat.le_of_ble_eq_true (by kernel_rfl), wk19 _ _ _ _ _ hp⟩
  · cases hs
end Go.Proofs.AMT
set_option maxRecDepth 20000
namespace Go.Proofs.AMT
open Go.AM Go.AM.LN
attribute [local congr] bindO_congr bindS_congr bindG_congr awpOps_congr aOne_congr awp_congr aCond_congr awpD_congr dOne_congr keysB_congr nOne_congr thenP_congr blockP_congr Chk_congr Brk_congr
noncomputable def s41 : CSpec := fun ds => match ds with
  | [.v (.agg ⟨[.int .u64 a0, .int .u64 a1, .int .u64 a2, .int .u64 a3]⟩), .v (.agg ⟨[.int .u64 b0, .int .u64 b1, .int .u64 b2, .int .u64 b3]⟩)] => some (True, .one (.v (.agg #[.int .u64 (AM.bits .and .u64 a0 b0), .int .u64 (AM.bits .and .u64 a1 b1), .int .u64 (AM.bits .and .u64 a2 b2), .int .u64 (AM.bits .and .u64 a3 b3)])))
  | _ => none
theorem s41_eq (a0 a1 a2 a3 : Int) (b0 b1 b2 b3 : Int) : norm s41 [.v (.agg #[.int .u64 a0, .int .u64 a1, .int .u64 a2, .int .u64 a3]), .v (.agg #[.int .u64 b0, .int .u64 b1, .int .u64 b2, .int .u64 b3])] = some (True, .one (.v (.agg #[.int .u64 (AM.bits .and .u64 a0 b0), .int .u64 (AM.bits .and .u64 a1 b1), .int .u64 (AM.bits .and .u64 a2 b2), .int .u64 (AM.bits .and .u64 a3 b3)]))) := rfl
noncomputable def G41 : Gam := []
theorem G41_ok : GamOk Tryz.prog G41 := gamOk_nil
set_option maxHeartbeats 20000000 in
theorem wk41 (a0 a1 a2 a3 : Int) (b0 b1 b2 b3 : Int) (hp : True) : awp ty G41 (code Tryz.f41) (retP ty Tryz.f41.results.toList (.one (.v (.agg #[.int .u64 (AM.bits .and .u64 a0 b0), .int .u64 (AM.bits .and .u64 a1 b1), .int .u64 (AM.bits .and .u64 a2 b2), .int .u64 (AM.bits .and .u64 a3 b3)])))) (entry 0 [.v (.agg #[.int .u64 a0, .int .u64 a1, .int .u64 a2, .int .u64 a3]), .v (.agg #[.int .u64 b0, .int .u64 b1, .int .u64 b2, .int .u64 b3])]) [] := by
  unfold code
  simp only [Tryz.f41, Option.getD_some]
  all_goals repeat' (first
    | ((first
       | (with_reducible refine ops_k ?_; intro X hX)
       | (with_reducible refine opsN_k ?_; intro X hX)
       | (with_reducible show awp _ _ _ _ (keepL _ _) _)
       | (with_reducible refine hX _ _ _ _ ?_; clear hX X)
       | (with_reducible refine opsD_k ?_; intro X hX)
       | with_reducible refine awp_cond_k ?_
       | (with_reducible refine Brk_i ?_ ?_ <;> intro hb <;> (try simp only [hb]) <;> have hq := hb <;> try simp only [decide_eq_true_eq, decide_eq_false_iff_not, gt_iff_lt, ge_iff_le, Int.not_lt, Int.not_le, beq_iff_eq, beq_eq_false_iff_ne, Bool.not_eq_true', Bool.not_eq_false', Bool.and_eq_true, Bool.or_eq_true, Bool.and_eq_false_imp, Bool.or_eq_false_iff, ne_eq, Classical.not_not] at hq)
       | with_reducible refine retP_ret_i ?_
       | with_reducible refine retP_normal_i ?_
       | (with_reducible (show bindG _ _ _ _ _); simp only [hall])) <;> try simp only [Go.AM.S1, Go.AM.S2, Go.AM.S3, Go.AM.S4, Go.AM.S5, Go.AM.S6, Go.AM.S7, Go.AM.S8, Go.AM.S9, Nat.reduceAdd, Nat.reduceMul, Nat.reduceSub, ↓reduceIte, Nat.reduceEqDiff, Nat.reduceLT, Nat.reduceLeDiff, reduceCtorEq, Int.reduceBEq, Int.reduceBNe, Nat.reduceBEq, Int.reduceEq, Int.reduceToNat, Int.reduceLE, Int.reduceLT, Nat.reduceDiv, Int.reduceAdd, Int.reduceSub, Int.reduceMul, Int.reduceNeg, Int.reduceGT, Int.reduceGE, Nat.reduceMod, ty_3, ty_22, ty_24])
    | (with_reducible refine hX _ _ ?_; clear hX X)
    | (with_reducible refine opsD_nil_i ?_; try clear hall all)
    | (with_reducible refine keysB_i ?_; kernel_rfl)
    | ((with_reducible show clashK _ _ _ = true); kernel_rfl)
    | (with_reducible refine ops_nil_i ?_; try clear hall all)
    | (with_reducible refine opsN_nil_i ?_; try clear hall all)
    | (with_reducible refine hK _ _ ?_; clear hK K)
    | with_reducible refine thenP_normal_i ?_
    | (with_reducible refine zzr6 _ _ ?_; try clear zzr6 Kzzr6)
    | (with_reducible refine zzsr1 _ _ ?_; try clear zzsr1 Kzzsr1)
    | (with_reducible refine zzb1 _ _ ?_; try clear zzb1 Kzzb1)
    | (with_reducible refine zzr3 _ _ ?_; try clear zzr3 Kzzr3)
    | (with_reducible refine zzctmp7 _ _ ?_; try clear zzctmp7 Kzzctmp7)
    | (with_reducible refine zzr2 _ _ ?_; try clear zzr2 Kzzr2)
    | (with_reducible refine zzr1 _ _ ?_; try clear zzr1 Kzzr1)
    | (with_reducible refine zzr0 _ _ ?_; try clear zzr0 Kzzr0)
    | (with_reducible refine awp_unroll (Nat.succ (Nat.succ (Nat.succ (Nat.succ (Nat.succ Nat.zero))))) ?_)
    | (with_reducible refine awp_seq_l (a := .region 6 _ _) [4] ?_; intro Kzzr6 zzr6)
    | (with_reducible refine awp_seq_l (a := .seq (.region 1 _ _) _) [2, 4] ?_; intro Kzzsr1 zzsr1)
    | (with_reducible refine awp_seq_l (a := .block 1 _) [2, 3, 4, 6] ?_; intro Kzzb1 zzb1)
    | (with_reducible refine awp_seq_l (a := .region 3 _ _) [2, 3, 4, 5, 6] ?_; intro Kzzr3 zzr3)
    | (with_reducible refine awp_seq_l (a := .cond (.tmp 7) _ _) [2, 3, 4, 6] ?_; intro Kzzctmp7 zzctmp7)
    | (with_reducible refine awp_seq_l (a := .region 2 _ _) [2, 3, 4, 6, 7] ?_; intro Kzzr2 zzr2)
    | (with_reducible refine awp_seq_l (a := .region 1 _ _) [2, 3, 4, 6] ?_; intro Kzzr1 zzr1)
    | (with_reducible refine awp_seq_l (a := .region 0 _ _) [2, 3, 4] ?_; intro Kzzr0 zzr0)
    | (with_reducible refine awp_seq_k ?_; intro K hK)
    | (with_reducible refine awp_region_a ?_; intro all hall K hK)
    | (with_reducible refine awp_draw_a (id := 4) ?_ ?_; kernel_rfl; intro all hall K hK)
    | (with_reducible refine awp_draw_n ?_ ?_; kernel_rfl; intro all hall K hK)
    | (with_reducible refine Chk_i ?_ ?_)
    | (with_reducible refine keysC_i ?_; kernel_rfl)
    | (with_reducible first | refine awp_block_i ?_ | refine awp_skip_i ?_ | refine awp_ret_i ?_ | refine awp_exit_i ?_ | refine thenP_ret_i ?_ | refine thenP_exit_i ?_ | refine lpP_ret_i ?_ | refine lpP_exit_i ?_ | refine unrP_succ_i ?_ | refine unrP_ret_i ?_ | refine unrP_exit_i ?_ | refine blockP_normal_i ?_ | refine blockP_ret_i ?_)
    | (with_reducible refine blockP_exit_i ?_; simp only [↓reduceIte, Nat.reduceEqDiff])
    | with_reducible refine lpP_normal_i ?_)
  all_goals (try clear zzr0; try clear Kzzr0)
  all_goals (try clear zzr1; try clear Kzzr1)
  all_goals (try clear zzr2; try clear Kzzr2)
  all_goals (try clear zzctmp7; try clear Kzzctmp7)
  all_goals (try clear zzr3; try clear Kzzr3)
  all_goals (try clear zzb1; try clear Kzzb1)
  all_goals (try clear zzsr1; try clear Kzzsr1)
  all_goals (try clear zzr6; try clear Kzzr6)
  all_goals (simp only [inR]; omega)
theorem sound_41 : Sound Tryz.prog 41 .body (norm s41) := by
  refine sound_norm (sound_body Tryz.func41 (show Tryz.f41.body = some (code Tryz.f41) from rfl) (by kernel_rfl) tysOk G41_ok (drawOk_ok (by kernel_rfl) tysOk G41_ok) (by kernel_rfl) fun ds p r hs hp => ?_)
  unfold s41 at hs
  split at hs
  · cases hs; exact ⟨Nat.le_of_ble_eq_true (by kernel_rfl), wk41 _ _ _ _ _ _ _ _ hp⟩
  · cases hs
end Go.Proofs.AMT
set_option maxRecDepth 20000
namespace Go.Proofs.AMT
open Go.AM Go.AM.LN
attribute [local congr] bindO_congr bindS_congr bindG_congr awpOps_congr aOne_congr awp_congr aCond_congr awpD_congr dOne_congr keysB_congr nOne_congr thenP_congr blockP_congr Chk_congr Brk_congr
noncomputable def s42 : CSpec := fun ds => match ds with
  | [.v (.agg ⟨[.int .u64 a0, .int .u64 a1, .int .u64 a2, .int .u64 a3]⟩), .v (.int .i64 n)] => some (((0 ≤ a0 ∧ a0 < 18446744073709551616) ∧ (0 ≤ a1 ∧ a1 < 18446744073709551616) ∧ (0 ≤ a2 ∧ a2 < 18446744073709551616) ∧ (0 ≤ a3 ∧ a3 < 18446744073709551616)) ∧ 0 ≤ n ∧ n < 4000000000, .one (.v (.agg #[.int .u64 (w4 (V4 a0 a1 a2 a3 / 2 ^ n.toNat) 0), .int .u64 (w4 (V4 a0 a1 a2 a3 / 2 ^ n.toNat) 1), .int .u64 (w4 (V4 a0 a1 a2 a3 / 2 ^ n.toNat) 2), .int .u64 (w4 (V4 a0 a1 a2 a3 / 2 ^ n.toNat) 3)])))
  | _ => none
theorem s42_eq (a0 a1 a2 a3 : Int) (n : Int) : norm s42 [.v (.agg #[.int .u64 a0, .int .u64 a1, .int .u64 a2, .int .u64 a3]), .v (.int .i64 n)] = some (((0 ≤ a0 ∧ a0 < 18446744073709551616) ∧ (0 ≤ a1 ∧ a1 < 18446744073709551616) ∧ (0 ≤ a2 ∧ a2 < 18446744073709551616) ∧ (0 ≤ a3 ∧ a3 < 18446744073709551616)) ∧ 0 ≤ n ∧ n < 4000000000, .one (.v (.agg #[.int .u64 (w4 (V4 a0 a1 a2 a3 / 2 ^ n.toNat) 0), .int .u64 (w4 (V4 a0 a1 a2 a3 / 2 ^ n.toNat) 1), .int .u64 (w4 (V4 a0 a1 a2 a3 / 2 ^ n.toNat) 2), .int .u64 (w4 (V4 a0 a1 a2 a3 / 2 ^ n.toNat) 3)]))) := rfl
noncomputable def G42 : Gam := []
theorem G42_ok : GamOk Tryz.prog G42 := gamOk_nil
set_option maxHeartbeats 20000000 in
theorem wk42 (a0 a1 a2 a3 : Int) (n : Int) (hp : ((0 ≤ a0 ∧ a0 < 18446744073709551616) ∧ (0 ≤ a1 ∧ a1 < 18446744073709551616) ∧ (0 ≤ a2 ∧ a2 < 18446744073709551616) ∧ (0 ≤ a3 ∧ a3 < 18446744073709551616)) ∧ 0 ≤ n ∧ n < 4000000000) : awp ty G42 (code Tryz.f42) (retP ty Tryz.f42.results.toList (.one (.v (.agg #[.int .u64 (w4 (V4 a0 a1 a2 a3 / 2 ^ n.toNat) 0), .int .u64 (w4 (V4 a0 a1 a2 a3 / 2 ^ n.toNat) 1), .int .u64 (w4 (V4 a0 a1 a2 a3 / 2 ^ n.toNat) 2), .int .u64 (w4 (V4 a0 a1 a2 a3 / 2 ^ n.toNat) 3)])))) (entry 0 [.v (.agg #[.int .u64 a0, .int .u64 a1, .int .u64 a2, .int .u64 a3]), .v (.int .i64 n)]) [] := by
  unfold code
  simp only [Tryz.f42, Option.getD_some]
  obtain ⟨k, rfl⟩ := Int.eq_ofNat_of_zero_le (show 0 ≤ n by omega)
  have hk : k = 64 * (k / 64) + k % 64 := by omega
  generalize hw : k / 64 = w at *
  generalize hs : k % 64 = s at *
  have hd : (k : Int).tdiv 64 = (w : Int) := by rw [Int.tdiv_eq_ediv_of_nonneg (by omega)]; omega
  have hm : (k : Int).tmod 64 = (s : Int) := by rw [Int.tmod_eq_emod_of_nonneg (by omega)]; omega
  have hmm : (s : Int) % 18446744073709551616 = (s : Int) := by omega
  have m1 : min s 64 = s := by omega
  have m2 : (64 - (s : Int)).toNat = 64 - s := by omega
  have m4 : (64 - (s : Int)) % 18446744073709551616 = 64 - (s : Int) := by omega
  have m3 : min (64 - s) 64 = 64 - s := by omega
  obtain ⟨ha0, ha1, ha2, ha3⟩ := hp.1
  have hw5 : w = 0 ∨ w = 1 ∨ w = 2 ∨ w = 3 ∨ 4 ≤ w := by omega
  rcases Nat.eq_zero_or_pos k with hk0 | hk0 <;> rcases Nat.eq_zero_or_pos s with hs0 | hs0 <;> rcases hw5 with hw0 | hw0 | hw0 | hw0 | hw0
  all_goals first
    | (exfalso; omega)
    | skip
  all_goals first
    | (have gk : decide ((k : Int) < 1) = false := by simp only [decide_eq_false_iff_not]; omega)
    | (have gk : decide ((k : Int) < 1) = true := by simp only [decide_eq_true_eq]; omega)
  all_goals first
    | (have gs : decide ((s : Int) > 0) = false := by simp only [decide_eq_false_iff_not]; omega)
    | (have gs : decide ((s : Int) > 0) = true := by simp only [decide_eq_true_eq]; omega)
  all_goals first
    | replace hd : (k : Int).tdiv 64 = 0 := by omega
    | replace hd : (k : Int).tdiv 64 = 1 := by omega
    | replace hd : (k : Int).tdiv 64 = 2 := by omega
    | replace hd : (k : Int).tdiv 64 = 3 := by omega
    | skip
  all_goals first
    | (have gw : decide ((0 : Int) < 4 - (w : Int)) = false := by simp only [decide_eq_false_iff_not]; omega)
    | (have gw : decide ((4 : Int) ≥ 5) = false := rfl)
  all_goals (obtain ⟨a0, rfl⟩ := Int.eq_ofNat_of_zero_le ha0.1)
  all_goals (obtain ⟨a1, rfl⟩ := Int.eq_ofNat_of_zero_le ha1.1)
  all_goals (obtain ⟨a2, rfl⟩ := Int.eq_ofNat_of_zero_le ha2.1)
  all_goals (obtain ⟨a3, rfl⟩ := Int.eq_ofNat_of_zero_le ha3.1)
  all_goals (have n0 : a0 < 18446744073709551616 := by omega)
  all_goals (have n1 : a1 < 18446744073709551616 := by omega)
  all_goals (have n2 : a2 < 18446744073709551616 := by omega)
  all_goals (have n3 : a3 < 18446744073709551616 := by omega)
  all_goals (have hs64 : s < 64 := by omega)
  all_goals (have or10 := shl_wordN n0 n1 hs64)
  all_goals (have or21 := shl_wordN n1 n2 hs64)
  all_goals (have or32 := shl_wordN n2 n3 hs64)
  all_goals (have ro01 := shr_wordN n0 n1 hs64)
  all_goals (have ro12 := shr_wordN n1 n2 hs64)
  all_goals (have ro23 := shr_wordN n2 n3 hs64)
  all_goals repeat' (first
    | ((first
       | (with_reducible refine ops_k ?_; intro X hX)
       | (with_reducible refine opsN_k ?_; intro X hX)
       | (with_reducible show awp _ _ _ _ (keepL _ _) _)
       | (with_reducible refine hX _ _ _ _ ?_; clear hX X)
       | (with_reducible refine opsD_k ?_; intro X hX)
       | with_reducible refine awp_cond_k ?_
       | (with_reducible refine Brk_i ?_ ?_ <;> intro hb <;> (try simp only [hb]) <;> have hq := hb <;> try simp only [decide_eq_true_eq, decide_eq_false_iff_not, gt_iff_lt, ge_iff_le, Int.not_lt, Int.not_le, beq_iff_eq, beq_eq_false_iff_ne, Bool.not_eq_true', Bool.not_eq_false', Bool.and_eq_true, Bool.or_eq_true, Bool.and_eq_false_imp, Bool.or_eq_false_iff, ne_eq, Classical.not_not] at hq)
       | with_reducible refine retP_ret_i ?_
       | with_reducible refine retP_normal_i ?_
       | (with_reducible (show bindG _ _ _ _ _); simp only [hall])) <;> try simp only [Go.AM.S1, Go.AM.S2, Go.AM.S3, Go.AM.S4, Go.AM.S5, Go.AM.S6, Go.AM.S7, Go.AM.S8, Go.AM.S9, Nat.reduceAdd, Nat.reduceMul, Nat.reduceSub, ↓reduceIte, Nat.reduceEqDiff, Nat.reduceLT, Nat.reduceLeDiff, reduceCtorEq, Int.reduceBEq, Int.reduceBNe, Nat.reduceBEq, Int.reduceEq, Int.reduceToNat, Int.reduceLE, Int.reduceLT, Nat.reduceDiv, Int.reduceAdd, Int.reduceSub, Int.reduceMul, Int.reduceNeg, Int.reduceGT, Int.reduceGE, Nat.reduceMod, ty_3, ty_22, ty_23, ty_37, hd, hm, hmm, m1, m2, m3, m4, IntKind.bits, gk, gs, gw, castShl, castShr, ro01, ro12, ro23])
    | (with_reducible refine hX _ _ ?_; clear hX X)
    | (with_reducible refine opsD_nil_i ?_; try clear hall all)
    | (with_reducible refine keysB_i ?_; kernel_rfl)
    | ((with_reducible show clashK _ _ _ = true); kernel_rfl)
    | (with_reducible refine ops_nil_i ?_; try clear hall all)
    | (with_reducible refine opsN_nil_i ?_; try clear hall all)
    | (with_reducible refine hK _ _ ?_; clear hK K)
    | with_reducible refine thenP_normal_i ?_
    | (with_reducible refine zzr11 _ _ ?_; try clear zzr11 Kzzr11)
    | (with_reducible refine zzsr5 _ _ ?_; try clear zzsr5 Kzzsr5)
    | (with_reducible refine zzb1 _ _ ?_; try clear zzb1 Kzzb1)
    | (with_reducible refine zzr9 _ _ ?_; try clear zzr9 Kzzr9)
    | (with_reducible refine zzr8 _ _ ?_; try clear zzr8 Kzzr8)
    | (with_reducible refine zzsr6 _ _ ?_; try clear zzsr6 Kzzsr6)
    | (with_reducible refine zzr6 _ _ ?_; try clear zzr6 Kzzr6)
    | (with_reducible refine zzr5 _ _ ?_; try clear zzr5 Kzzr5)
    | (with_reducible refine zzr4 _ _ ?_; try clear zzr4 Kzzr4)
    | (with_reducible refine zzr3 _ _ ?_; try clear zzr3 Kzzr3)
    | (with_reducible refine zzsr1 _ _ ?_; try clear zzsr1 Kzzsr1)
    | (with_reducible refine zzr2 _ _ ?_; try clear zzr2 Kzzr2)
    | (with_reducible refine zzr1 _ _ ?_; try clear zzr1 Kzzr1)
    | (with_reducible refine zzr0 _ _ ?_; try clear zzr0 Kzzr0)
    | (with_reducible refine awp_unroll (Nat.succ (Nat.succ (Nat.succ (Nat.succ (Nat.succ Nat.zero))))) ?_)
    | (with_reducible refine awp_seq_l (a := .region 11 _ _) [4] ?_; intro Kzzr11 zzr11)
    | (with_reducible refine awp_seq_l (a := .seq (.region 5 _ _) _) [4, 5] ?_; intro Kzzsr5 zzsr5)
    | (with_reducible refine awp_seq_l (a := .block 1 _) [2, 4, 5, 6, 7, 8] ?_; intro Kzzb1 zzb1)
    | (with_reducible refine awp_seq_l (a := .region 9 _ _) [2, 4, 5, 6, 7, 8, 44] ?_; intro Kzzr9 zzr9)
    | (with_reducible refine awp_seq_l (a := .region 8 _ _) [2, 4, 5, 6, 7, 8] ?_; intro Kzzr8 zzr8)
    | (with_reducible refine awp_seq_l (a := .seq (.region 6 _ _) _) [2, 4, 5, 6, 7, 8] ?_; intro Kzzsr6 zzsr6)
    | (with_reducible refine awp_seq_l (a := .region 6 _ _) [2, 4, 5, 6, 7, 8, 22] ?_; intro Kzzr6 zzr6)
    | (with_reducible refine awp_seq_l (a := .region 5 _ _) [2, 4, 5, 6, 7, 8] ?_; intro Kzzr5 zzr5)
    | (with_reducible refine awp_seq_l (a := .region 4 _ _) [2, 4, 5, 6, 7] ?_; intro Kzzr4 zzr4)
    | (with_reducible refine awp_seq_l (a := .region 3 _ _) [1, 2, 4, 5] ?_; intro Kzzr3 zzr3)
    | (with_reducible refine awp_seq_l (a := .seq (.region 1 _ _) _) [1, 2, 4] ?_; intro Kzzsr1 zzsr1)
    | (with_reducible refine awp_seq_l (a := .region 2 _ _) [4] ?_; intro Kzzr2 zzr2)
    | (with_reducible refine awp_seq_l (a := .region 1 _ _) [1, 2, 4, 10] ?_; intro Kzzr1 zzr1)
    | (with_reducible refine awp_seq_l (a := .region 0 _ _) [1, 2, 4] ?_; intro Kzzr0 zzr0)
    | (with_reducible refine awp_seq_k ?_; intro K hK)
    | (with_reducible refine awp_region_a ?_; intro all hall K hK)
    | (with_reducible refine awp_draw_a (id := 10) ?_ ?_; kernel_rfl; intro all hall K hK)
    | (with_reducible refine awp_draw_n ?_ ?_; kernel_rfl; intro all hall K hK)
    | (with_reducible refine Chk_i ?_ ?_)
    | (with_reducible refine keysC_i ?_; kernel_rfl)
    | (with_reducible first | refine awp_block_i ?_ | refine awp_skip_i ?_ | refine awp_ret_i ?_ | refine awp_exit_i ?_ | refine thenP_ret_i ?_ | refine thenP_exit_i ?_ | refine lpP_ret_i ?_ | refine lpP_exit_i ?_ | refine unrP_succ_i ?_ | refine unrP_ret_i ?_ | refine unrP_exit_i ?_ | refine blockP_normal_i ?_ | refine blockP_ret_i ?_)
    | (with_reducible refine blockP_exit_i ?_; simp only [↓reduceIte, Nat.reduceEqDiff])
    | with_reducible refine lpP_normal_i ?_)
  all_goals (try clear zzr0; try clear Kzzr0)
  all_goals (try clear zzr1; try clear Kzzr1)
  all_goals (try clear zzr2; try clear Kzzr2)
  all_goals (try clear zzsr1; try clear Kzzsr1)
  all_goals (try clear zzr3; try clear Kzzr3)
  all_goals (try clear zzr4; try clear Kzzr4)
  all_goals (try clear zzr5; try clear Kzzr5)
  all_goals (try clear zzr6; try clear Kzzr6)
  all_goals (try clear zzsr6; try clear Kzzsr6)
  all_goals (try clear zzr8; try clear Kzzr8)
  all_goals (try clear zzr9; try clear Kzzr9)
  all_goals (try clear zzb1; try clear Kzzb1)
  all_goals (try clear zzsr5; try clear Kzzsr5)
  all_goals (try clear zzr11; try clear Kzzr11)
  all_goals (try simp only [inR])
  all_goals first
    | omega
    | skip
  all_goals first
    | exact agg4 (shr4w  hk n0 n1 n2 n3 hs64 (.inl ⟨hw0, rfl, rfl, rfl, rfl⟩))
    | exact agg4 (shr4w  hk n0 n1 n2 n3 hs64 (.inl ⟨hw0, (by rw [lo0 hs0, Nat.add_zero]), (by rw [lo0 hs0, Nat.add_zero]), (by rw [lo0 hs0, Nat.add_zero]), rfl⟩))
    | exact agg4 (shr4w (o3 := 0) hk n0 n1 n2 n3 hs64 (.inr (.inl ⟨hw0, rfl, rfl, rfl, rfl⟩)))
    | exact agg4 (shr4w (o3 := 0) hk n0 n1 n2 n3 hs64 (.inr (.inl ⟨hw0, (by rw [lo0 hs0, Nat.add_zero]), (by rw [lo0 hs0, Nat.add_zero]), rfl, rfl⟩)))
    | exact agg4 (shr4w (o2 := 0) (o3 := 0) hk n0 n1 n2 n3 hs64 (.inr (.inr (.inl ⟨hw0, rfl, rfl, rfl, rfl⟩))))
    | exact agg4 (shr4w (o2 := 0) (o3 := 0) hk n0 n1 n2 n3 hs64 (.inr (.inr (.inl ⟨hw0, (by rw [lo0 hs0, Nat.add_zero]), rfl, rfl, rfl⟩))))
    | exact agg4 (shr4w (o1 := 0) (o2 := 0) (o3 := 0) hk n0 n1 n2 n3 hs64 (.inr (.inr (.inr (.inl ⟨hw0, rfl, rfl, rfl, rfl⟩)))))
    | exact agg4 (shr4w (o1 := 0) (o2 := 0) (o3 := 0) hk n0 n1 n2 n3 hs64 (.inr (.inr (.inr (.inl ⟨hw0, rfl, rfl, rfl, rfl⟩)))))
    | exact agg4 (shr4w (o0 := 0) (o1 := 0) (o2 := 0) (o3 := 0) hk n0 n1 n2 n3 hs64 (.inr (.inr (.inr (.inr ⟨hw0, rfl, rfl, rfl, rfl⟩)))))
    | exact agg4 (shr4w (o0 := 0) (o1 := 0) (o2 := 0) (o3 := 0) hk n0 n1 n2 n3 hs64 (.inr (.inr (.inr (.inr ⟨hw0, rfl, rfl, rfl, rfl⟩)))))
    | (rw [hk0, Nat.pow_zero, Nat.div_one]
       obtain ⟨f0, f1, f2, f3⟩ := w4_V4 ha0 ha1 ha2 ha3
       rw [f0, f1, f2, f3])
theorem sound_42 : Sound Tryz.prog 42 .body (norm s42) := by
  refine sound_norm (sound_body Tryz.func42 (show Tryz.f42.body = some (code Tryz.f42) from rfl) (by kernel_rfl) tysOk G42_ok (drawOk_ok (by kernel_rfl) tysOk G42_ok) (by kernel_rfl) fun ds p r hs hp => ?_)
  unfold s42 at hs
  split at hs
  · cases hs; exact ⟨Nat.le_of_ble_eq_true (by kernel_rfl), wk42 _ _ _ _ _ hp⟩
  · cases hs
end Go.Proofs.AMT
set_option maxRecDepth 20000
namespace Go.Proofs.AMT
open Go.AM Go.AM.LN
attribute [local congr] bindO_congr bindS_congr bindG_congr awpOps_congr aOne_congr awp_congr aCond_congr awpD_congr dOne_congr keysB_congr nOne_congr thenP_congr blockP_congr Chk_congr Brk_congr
noncomputable def s10 : CSpec := fun ds => match ds with
  | [.v (.agg ⟨[.int .u64 a0, .int .u64 a1, .int .u64 a2, .int .u64 a3]⟩), .v (.int .i64 n)] => some (((0 ≤ a0 ∧ a0 < 18446744073709551616) ∧ (0 ≤ a1 ∧ a1 < 18446744073709551616) ∧ (0 ≤ a2 ∧ a2 < 18446744073709551616) ∧ (0 ≤ a3 ∧ a3 < 18446744073709551616)) ∧ 0 ≤ n ∧ n < 4000000000, .one (.v (.agg #[.int .u64 (w4 (V4 a0 a1 a2 a3 * 2 ^ n.toNat % 2 ^ 256) 0), .int .u64 (w4 (V4 a0 a1 a2 a3 * 2 ^ n.toNat % 2 ^ 256) 1), .int .u64 (w4 (V4 a0 a1 a2 a3 * 2 ^ n.toNat % 2 ^ 256) 2), .int .u64 (w4 (V4 a0 a1 a2 a3 * 2 ^ n.toNat % 2 ^ 256) 3)])))
  | _ => none
theorem s10_eq (a0 a1 a2 a3 : Int) (n : Int) : norm s10 [.v (.agg #[.int .u64 a0, .int .u64 a1, .int .u64 a2, .int .u64 a3]), .v (.int .i64 n)] = some (((0 ≤ a0 ∧ a0 < 18446744073709551616) ∧ (0 ≤ a1 ∧ a1 < 18446744073709551616) ∧ (0 ≤ a2 ∧ a2 < 18446744073709551616) ∧ (0 ≤ a3 ∧ a3 < 18446744073709551616)) ∧ 0 ≤ n ∧ n < 4000000000, .one (.v (.agg #[.int .u64 (w4 (V4 a0 a1 a2 a3 * 2 ^ n.toNat % 2 ^ 256) 0), .int .u64 (w4 (V4 a0 a1 a2 a3 * 2 ^ n.toNat % 2 ^ 256) 1), .int .u64 (w4 (V4 a0 a1 a2 a3 * 2 ^ n.toNat % 2 ^ 256) 2), .int .u64 (w4 (V4 a0 a1 a2 a3 * 2 ^ n.toNat % 2 ^ 256) 3)]))) := rfl
noncomputable def G10 : Gam := []
theorem G10_ok : GamOk Tryz.prog G10 := gamOk_nil
set_option maxHeartbeats 20000000 in
theorem wk10 (a0 a1 a2 a3 : Int) (n : Int) (hp : ((0 ≤ a0 ∧ a0 < 18446744073709551616) ∧ (0 ≤ a1 ∧ a1 < 18446744073709551616) ∧ (0 ≤ a2 ∧ a2 < 18446744073709551616) ∧ (0 ≤ a3 ∧ a3 < 18446744073709551616)) ∧ 0 ≤ n ∧ n < 4000000000) : awp ty G10 (code Tryz.f10) (retP ty Tryz.f10.results.toList (.one (.v (.agg #[.int .u64 (w4 (V4 a0 a1 a2 a3 * 2 ^ n.toNat % 2 ^ 256) 0), .int .u64 (w4 (V4 a0 a1 a2 a3 * 2 ^ n.toNat % 2 ^ 256) 1), .int .u64 (w4 (V4 a0 a1 a2 a3 * 2 ^ n.toNat % 2 ^ 256) 2), .int .u64 (w4 (V4 a0 a1 a2 a3 * 2 ^ n.toNat % 2 ^ 256) 3)])))) (entry 0 [.v (.agg #[.int .u64 a0, .int .u64 a1, .int .u64 a2, .int .u64 a3]), .v (.int .i64 n)]) [] := by
  unfold code
  simp only [Tryz.f10, Option.getD_some]
  obtain ⟨k, rfl⟩ := Int.eq_ofNat_of_zero_le (show 0 ≤ n by omega)
  have hk : k = 64 * (k / 64) + k % 64 := by omega
  generalize hw : k / 64 = w at *
  generalize hs : k % 64 = s at *
  have hd : (k : Int).tdiv 64 = (w : Int) := by rw [Int.tdiv_eq_ediv_of_nonneg (by omega)]; omega
  have hm : (k : Int).tmod 64 = (s : Int) := by rw [Int.tmod_eq_emod_of_nonneg (by omega)]; omega
  have hmm : (s : Int) % 18446744073709551616 = (s : Int) := by omega
  have m1 : min s 64 = s := by omega
  have m2 : (64 - (s : Int)).toNat = 64 - s := by omega
  have m4 : (64 - (s : Int)) % 18446744073709551616 = 64 - (s : Int) := by omega
  have m3 : min (64 - s) 64 = 64 - s := by omega
  obtain ⟨ha0, ha1, ha2, ha3⟩ := hp.1
  have hw5 : w = 0 ∨ w = 1 ∨ w = 2 ∨ w = 3 ∨ 4 ≤ w := by omega
  rcases Nat.eq_zero_or_pos k with hk0 | hk0 <;> rcases Nat.eq_zero_or_pos s with hs0 | hs0 <;> rcases hw5 with hw0 | hw0 | hw0 | hw0 | hw0
  all_goals first
    | (exfalso; omega)
    | skip
  all_goals first
    | (have gk : decide ((k : Int) < 1) = false := by simp only [decide_eq_false_iff_not]; omega)
    | (have gk : decide ((k : Int) < 1) = true := by simp only [decide_eq_true_eq]; omega)
  all_goals first
    | (have gs : decide ((s : Int) > 0) = false := by simp only [decide_eq_false_iff_not]; omega)
    | (have gs : decide ((s : Int) > 0) = true := by simp only [decide_eq_true_eq]; omega)
  all_goals first
    | replace hd : (k : Int).tdiv 64 = 0 := by omega
    | replace hd : (k : Int).tdiv 64 = 1 := by omega
    | replace hd : (k : Int).tdiv 64 = 2 := by omega
    | replace hd : (k : Int).tdiv 64 = 3 := by omega
    | skip
  all_goals first
    | (have gw : decide ((3 : Int) ≥ (w : Int)) = false := by simp only [decide_eq_false_iff_not]; omega)
    | (have gw : decide ((4 : Int) ≥ 5) = false := rfl)
  all_goals (obtain ⟨a0, rfl⟩ := Int.eq_ofNat_of_zero_le ha0.1)
  all_goals (obtain ⟨a1, rfl⟩ := Int.eq_ofNat_of_zero_le ha1.1)
  all_goals (obtain ⟨a2, rfl⟩ := Int.eq_ofNat_of_zero_le ha2.1)
  all_goals (obtain ⟨a3, rfl⟩ := Int.eq_ofNat_of_zero_le ha3.1)
  all_goals (have n0 : a0 < 18446744073709551616 := by omega)
  all_goals (have n1 : a1 < 18446744073709551616 := by omega)
  all_goals (have n2 : a2 < 18446744073709551616 := by omega)
  all_goals (have n3 : a3 < 18446744073709551616 := by omega)
  all_goals (have hs64 : s < 64 := by omega)
  all_goals (have or10 := shl_wordN n0 n1 hs64)
  all_goals (have or21 := shl_wordN n1 n2 hs64)
  all_goals (have or32 := shl_wordN n2 n3 hs64)
  all_goals (have ro01 := shr_wordN n0 n1 hs64)
  all_goals (have ro12 := shr_wordN n1 n2 hs64)
  all_goals (have ro23 := shr_wordN n2 n3 hs64)
  all_goals repeat' (first
    | ((first
       | (with_reducible refine ops_k ?_; intro X hX)
       | (with_reducible refine opsN_k ?_; intro X hX)
       | (with_reducible show awp _ _ _ _ (keepL _ _) _)
       | (with_reducible refine hX _ _ _ _ ?_; clear hX X)
       | (with_reducible refine opsD_k ?_; intro X hX)
       | with_reducible refine awp_cond_k ?_
       | (with_reducible refine Brk_i ?_ ?_ <;> intro hb <;> (try simp only [hb]) <;> have hq := hb <;> try simp only [decide_eq_true_eq, decide_eq_false_iff_not, gt_iff_lt, ge_iff_le, Int.not_lt, Int.not_le, beq_iff_eq, beq_eq_false_iff_ne, Bool.not_eq_true', Bool.not_eq_false', Bool.and_eq_true, Bool.or_eq_true, Bool.and_eq_false_imp, Bool.or_eq_false_iff, ne_eq, Classical.not_not] at hq)
       | with_reducible refine retP_ret_i ?_
       | with_reducible refine retP_normal_i ?_
       | (with_reducible (show bindG _ _ _ _ _); simp only [hall])) <;> try simp only [Go.AM.S1, Go.AM.S2, Go.AM.S3, Go.AM.S4, Go.AM.S5, Go.AM.S6, Go.AM.S7, Go.AM.S8, Go.AM.S9, Nat.reduceAdd, Nat.reduceMul, Nat.reduceSub, ↓reduceIte, Nat.reduceEqDiff, Nat.reduceLT, Nat.reduceLeDiff, reduceCtorEq, Int.reduceBEq, Int.reduceBNe, Nat.reduceBEq, Int.reduceEq, Int.reduceToNat, Int.reduceLE, Int.reduceLT, Nat.reduceDiv, Int.reduceAdd, Int.reduceSub, Int.reduceMul, Int.reduceNeg, Int.reduceGT, Int.reduceGE, Nat.reduceMod, ty_3, ty_22, ty_23, ty_37, hd, hm, hmm, m1, m2, m3, m4, IntKind.bits, gk, gs, gw, castShl, castShr, or10, or21, or32])
    | (with_reducible refine hX _ _ ?_; clear hX X)
    | (with_reducible refine opsD_nil_i ?_; try clear hall all)
    | (with_reducible refine keysB_i ?_; kernel_rfl)
    | ((with_reducible show clashK _ _ _ = true); kernel_rfl)
    | (with_reducible refine ops_nil_i ?_; try clear hall all)
    | (with_reducible refine opsN_nil_i ?_; try clear hall all)
    | (with_reducible refine hK _ _ ?_; clear hK K)
    | with_reducible refine thenP_normal_i ?_
    | (with_reducible refine zzr11 _ _ ?_; try clear zzr11 Kzzr11)
    | (with_reducible refine zzsr5 _ _ ?_; try clear zzsr5 Kzzsr5)
    | (with_reducible refine zzb1 _ _ ?_; try clear zzb1 Kzzb1)
    | (with_reducible refine zzr9 _ _ ?_; try clear zzr9 Kzzr9)
    | (with_reducible refine zzr8 _ _ ?_; try clear zzr8 Kzzr8)
    | (with_reducible refine zzsr6 _ _ ?_; try clear zzsr6 Kzzsr6)
    | (with_reducible refine zzr6 _ _ ?_; try clear zzr6 Kzzr6)
    | (with_reducible refine zzr5 _ _ ?_; try clear zzr5 Kzzr5)
    | (with_reducible refine zzr4 _ _ ?_; try clear zzr4 Kzzr4)
    | (with_reducible refine zzr3 _ _ ?_; try clear zzr3 Kzzr3)
    | (with_reducible refine zzsr1 _ _ ?_; try clear zzsr1 Kzzsr1)
    | (with_reducible refine zzr2 _ _ ?_; try clear zzr2 Kzzr2)
    | (with_reducible refine zzr1 _ _ ?_; try clear zzr1 Kzzr1)
    | (with_reducible refine zzr0 _ _ ?_; try clear zzr0 Kzzr0)
    | (with_reducible refine awp_unroll (Nat.succ (Nat.succ (Nat.succ (Nat.succ (Nat.succ Nat.zero))))) ?_)
    | (with_reducible refine awp_seq_l (a := .region 11 _ _) [4] ?_; intro Kzzr11 zzr11)
    | (with_reducible refine awp_seq_l (a := .seq (.region 5 _ _) _) [4, 5] ?_; intro Kzzsr5 zzsr5)
    | (with_reducible refine awp_seq_l (a := .block 1 _) [2, 4, 5, 6, 7, 8] ?_; intro Kzzb1 zzb1)
    | (with_reducible refine awp_seq_l (a := .region 9 _ _) [2, 4, 5, 6, 7, 8, 40] ?_; intro Kzzr9 zzr9)
    | (with_reducible refine awp_seq_l (a := .region 8 _ _) [2, 4, 5, 6, 7, 8] ?_; intro Kzzr8 zzr8)
    | (with_reducible refine awp_seq_l (a := .seq (.region 6 _ _) _) [2, 4, 5, 6, 7, 8] ?_; intro Kzzsr6 zzsr6)
    | (with_reducible refine awp_seq_l (a := .region 6 _ _) [2, 4, 5, 6, 7, 8, 22] ?_; intro Kzzr6 zzr6)
    | (with_reducible refine awp_seq_l (a := .region 5 _ _) [2, 4, 5, 6, 7, 8] ?_; intro Kzzr5 zzr5)
    | (with_reducible refine awp_seq_l (a := .region 4 _ _) [2, 4, 5, 6, 7] ?_; intro Kzzr4 zzr4)
    | (with_reducible refine awp_seq_l (a := .region 3 _ _) [1, 2, 4, 5] ?_; intro Kzzr3 zzr3)
    | (with_reducible refine awp_seq_l (a := .seq (.region 1 _ _) _) [1, 2, 4] ?_; intro Kzzsr1 zzsr1)
    | (with_reducible refine awp_seq_l (a := .region 2 _ _) [4] ?_; intro Kzzr2 zzr2)
    | (with_reducible refine awp_seq_l (a := .region 1 _ _) [1, 2, 4, 10] ?_; intro Kzzr1 zzr1)
    | (with_reducible refine awp_seq_l (a := .region 0 _ _) [1, 2, 4] ?_; intro Kzzr0 zzr0)
    | (with_reducible refine awp_seq_k ?_; intro K hK)
    | (with_reducible refine awp_region_a ?_; intro all hall K hK)
    | (with_reducible refine awp_draw_a (id := 10) ?_ ?_; kernel_rfl; intro all hall K hK)
    | (with_reducible refine awp_draw_n ?_ ?_; kernel_rfl; intro all hall K hK)
    | (with_reducible refine Chk_i ?_ ?_)
    | (with_reducible refine keysC_i ?_; kernel_rfl)
    | (with_reducible first | refine awp_block_i ?_ | refine awp_skip_i ?_ | refine awp_ret_i ?_ | refine awp_exit_i ?_ | refine thenP_ret_i ?_ | refine thenP_exit_i ?_ | refine lpP_ret_i ?_ | refine lpP_exit_i ?_ | refine unrP_succ_i ?_ | refine unrP_ret_i ?_ | refine unrP_exit_i ?_ | refine blockP_normal_i ?_ | refine blockP_ret_i ?_)
    | (with_reducible refine blockP_exit_i ?_; simp only [↓reduceIte, Nat.reduceEqDiff])
    | with_reducible refine lpP_normal_i ?_)
  all_goals (try clear zzr0; try clear Kzzr0)
  all_goals (try clear zzr1; try clear Kzzr1)
  all_goals (try clear zzr2; try clear Kzzr2)
  all_goals (try clear zzsr1; try clear Kzzsr1)
  all_goals (try clear zzr3; try clear Kzzr3)
  all_goals (try clear zzr4; try clear Kzzr4)
  all_goals (try clear zzr5; try clear Kzzr5)
  all_goals (try clear zzr6; try clear Kzzr6)
  all_goals (try clear zzsr6; try clear Kzzsr6)
  all_goals (try clear zzr8; try clear Kzzr8)
  all_goals (try clear zzr9; try clear Kzzr9)
  all_goals (try clear zzb1; try clear Kzzb1)
  all_goals (try clear zzsr5; try clear Kzzsr5)
  all_goals (try clear zzr11; try clear Kzzr11)
  all_goals (try simp only [inR])
  all_goals first
    | omega
    | skip
  all_goals first
    | exact agg4 (shl4w  hk n0 n1 n2 n3 hs64 (.inl ⟨hw0, rfl, rfl, rfl, rfl⟩))
    | exact agg4 (shl4w  hk n0 n1 n2 n3 hs64 (.inl ⟨hw0, rfl, (by rw [hi0 n0 hs0, Nat.add_zero]), (by rw [hi0 n1 hs0, Nat.add_zero]), (by rw [hi0 n2 hs0, Nat.add_zero])⟩))
    | exact agg4 (shl4w (o0 := 0) hk n0 n1 n2 n3 hs64 (.inr (.inl ⟨hw0, rfl, rfl, rfl, rfl⟩)))
    | exact agg4 (shl4w (o0 := 0) hk n0 n1 n2 n3 hs64 (.inr (.inl ⟨hw0, rfl, rfl, (by rw [hi0 n0 hs0, Nat.add_zero]), (by rw [hi0 n1 hs0, Nat.add_zero])⟩)))
    | exact agg4 (shl4w (o0 := 0) (o1 := 0) hk n0 n1 n2 n3 hs64 (.inr (.inr (.inl ⟨hw0, rfl, rfl, rfl, rfl⟩))))
    | exact agg4 (shl4w (o0 := 0) (o1 := 0) hk n0 n1 n2 n3 hs64 (.inr (.inr (.inl ⟨hw0, rfl, rfl, rfl, (by rw [hi0 n0 hs0, Nat.add_zero])⟩))))
    | exact agg4 (shl4w (o0 := 0) (o1 := 0) (o2 := 0) hk n0 n1 n2 n3 hs64 (.inr (.inr (.inr (.inl ⟨hw0, rfl, rfl, rfl, rfl⟩)))))
    | exact agg4 (shl4w (o0 := 0) (o1 := 0) (o2 := 0) hk n0 n1 n2 n3 hs64 (.inr (.inr (.inr (.inl ⟨hw0, rfl, rfl, rfl, rfl⟩)))))
    | exact agg4 (shl4w (o0 := 0) (o1 := 0) (o2 := 0) (o3 := 0) hk n0 n1 n2 n3 hs64 (.inr (.inr (.inr (.inr ⟨hw0, rfl, rfl, rfl, rfl⟩)))))
    | exact agg4 (shl4w (o0 := 0) (o1 := 0) (o2 := 0) (o3 := 0) hk n0 n1 n2 n3 hs64 (.inr (.inr (.inr (.inr ⟨hw0, rfl, rfl, rfl, rfl⟩)))))
    | (rw [hk0, Nat.pow_zero, Nat.mul_one, Nat.mod_eq_of_lt (V4_lt ha0 ha1 ha2 ha3)]
       obtain ⟨f0, f1, f2, f3⟩ := w4_V4 ha0 ha1 ha2 ha3
       rw [f0, f1, f2, f3])
theorem sound_10 : Sound Tryz.prog 10 .body (norm s10) := by
  refine sound_norm (sound_body Tryz.func10 (show Tryz.f10.body = some (code Tryz.f10) from rfl) (by kernel_rfl) tysOk G10_ok (drawOk_ok (by kernel_rfl) tysOk G10_ok) (by kernel_rfl) fun ds p r hs hp => ?_)
  unfold s10 at hs
  split at hs
  · cases hs; exact ⟨Nat.le_of_ble_eq_true (by kernel_rfl), wk10 _ _ _ _ _ hp⟩
  · cases hs
end Go.Proofs.AMT
set_option maxRecDepth 20000
namespace Go.Proofs.AMT
open Go.AM Go.AM.LN
attribute [local congr] bindO_congr bindS_congr bindG_congr awpOps_congr aOne_congr awp_congr aCond_congr awpD_congr dOne_congr keysB_congr nOne_congr thenP_congr blockP_congr Chk_congr Brk_congr
noncomputable def s61 : CSpec := fun ds => match ds with
  | [.v (.agg ⟨[.int .u64 a0, .int .u64 a1, .int .u64 a2, .int .u64 a3]⟩), .v (.agg ⟨[.int .u64 b0, .int .u64 b1, .int .u64 b2, .int .u64 b3]⟩)] => some (((0 ≤ a0 ∧ a0 < 18446744073709551616) ∧ (0 ≤ a1 ∧ a1 < 18446744073709551616) ∧ (0 ≤ a2 ∧ a2 < 18446744073709551616) ∧ (0 ≤ a3 ∧ a3 < 18446744073709551616)) ∧ ((0 ≤ b0 ∧ b0 < 18446744073709551616) ∧ (0 ≤ b1 ∧ b1 < 18446744073709551616) ∧ (0 ≤ b2 ∧ b2 < 18446744073709551616) ∧ (0 ≤ b3 ∧ b3 < 18446744073709551616)) ∧ V4 b0 b1 b2 b3 ≤ V4 a0 a1 a2 a3, .many [.v (.agg #[.int .u64 (w4 (V4 a0 a1 a2 a3 - V4 b0 b1 b2 b3) 0), .int .u64 (w4 (V4 a0 a1 a2 a3 - V4 b0 b1 b2 b3) 1), .int .u64 (w4 (V4 a0 a1 a2 a3 - V4 b0 b1 b2 b3) 2), .int .u64 (w4 (V4 a0 a1 a2 a3 - V4 b0 b1 b2 b3) 3)]), .v (.int .u64 0)])
  | _ => none
theorem s61_eq (a0 a1 a2 a3 : Int) (b0 b1 b2 b3 : Int) : norm s61 [.v (.agg #[.int .u64 a0, .int .u64 a1, .int .u64 a2, .int .u64 a3]), .v (.agg #[.int .u64 b0, .int .u64 b1, .int .u64 b2, .int .u64 b3])] = some (((0 ≤ a0 ∧ a0 < 18446744073709551616) ∧ (0 ≤ a1 ∧ a1 < 18446744073709551616) ∧ (0 ≤ a2 ∧ a2 < 18446744073709551616) ∧ (0 ≤ a3 ∧ a3 < 18446744073709551616)) ∧ ((0 ≤ b0 ∧ b0 < 18446744073709551616) ∧ (0 ≤ b1 ∧ b1 < 18446744073709551616) ∧ (0 ≤ b2 ∧ b2 < 18446744073709551616) ∧ (0 ≤ b3 ∧ b3 < 18446744073709551616)) ∧ V4 b0 b1 b2 b3 ≤ V4 a0 a1 a2 a3, .many [.v (.agg #[.int .u64 (w4 (V4 a0 a1 a2 a3 - V4 b0 b1 b2 b3) 0), .int .u64 (w4 (V4 a0 a1 a2 a3 - V4 b0 b1 b2 b3) 1), .int .u64 (w4 (V4 a0 a1 a2 a3 - V4 b0 b1 b2 b3) 2), .int .u64 (w4 (V4 a0 a1 a2 a3 - V4 b0 b1 b2 b3) 3)]), .v (.int .u64 0)]) := rfl
noncomputable def G61 : Gam := [(59, .ext, sSub64)]
theorem G61_ok : GamOk Tryz.prog G61 := gamOk_cons ext_59 gamOk_nil
theorem k61_59 : lk G61 59 = some (.ext, sSub64) := rfl
set_option maxHeartbeats 20000000 in
theorem wk61 (a0 a1 a2 a3 : Int) (b0 b1 b2 b3 : Int) (hp : ((0 ≤ a0 ∧ a0 < 18446744073709551616) ∧ (0 ≤ a1 ∧ a1 < 18446744073709551616) ∧ (0 ≤ a2 ∧ a2 < 18446744073709551616) ∧ (0 ≤ a3 ∧ a3 < 18446744073709551616)) ∧ ((0 ≤ b0 ∧ b0 < 18446744073709551616) ∧ (0 ≤ b1 ∧ b1 < 18446744073709551616) ∧ (0 ≤ b2 ∧ b2 < 18446744073709551616) ∧ (0 ≤ b3 ∧ b3 < 18446744073709551616)) ∧ V4 b0 b1 b2 b3 ≤ V4 a0 a1 a2 a3) : awp ty G61 (code Tryz.f61) (retP ty Tryz.f61.results.toList (.many [.v (.agg #[.int .u64 (w4 (V4 a0 a1 a2 a3 - V4 b0 b1 b2 b3) 0), .int .u64 (w4 (V4 a0 a1 a2 a3 - V4 b0 b1 b2 b3) 1), .int .u64 (w4 (V4 a0 a1 a2 a3 - V4 b0 b1 b2 b3) 2), .int .u64 (w4 (V4 a0 a1 a2 a3 - V4 b0 b1 b2 b3) 3)]), .v (.int .u64 0)])) (entry 0 [.v (.agg #[.int .u64 a0, .int .u64 a1, .int .u64 a2, .int .u64 a3]), .v (.agg #[.int .u64 b0, .int .u64 b1, .int .u64 b2, .int .u64 b3])]) [] := by
  unfold code
  simp only [Tryz.f61, Option.getD_some]
  all_goals repeat' (first
    | ((first
       | (with_reducible refine ops_k ?_; intro X hX)
       | (with_reducible refine opsN_k ?_; intro X hX)
       | (with_reducible show awp _ _ _ _ (keepL _ _) _)
       | (with_reducible refine hX _ _ _ _ ?_; clear hX X)
       | (with_reducible refine opsD_k ?_; intro X hX)
       | with_reducible refine awp_cond_k ?_
       | (with_reducible refine Brk_i ?_ ?_ <;> intro hb <;> (try simp only [hb]) <;> have hq := hb <;> try simp only [decide_eq_true_eq, decide_eq_false_iff_not, gt_iff_lt, ge_iff_le, Int.not_lt, Int.not_le, beq_iff_eq, beq_eq_false_iff_ne, Bool.not_eq_true', Bool.not_eq_false', Bool.and_eq_true, Bool.or_eq_true, Bool.and_eq_false_imp, Bool.or_eq_false_iff, ne_eq, Classical.not_not] at hq)
       | with_reducible refine retP_ret_i ?_
       | with_reducible refine retP_normal_i ?_
       | (with_reducible (show bindG _ _ _ _ _); simp only [hall])) <;> try simp only [Go.AM.S1, Go.AM.S2, Go.AM.S3, Go.AM.S4, Go.AM.S5, Go.AM.S6, Go.AM.S7, Go.AM.S8, Go.AM.S9, Nat.reduceAdd, Nat.reduceMul, Nat.reduceSub, ↓reduceIte, Nat.reduceEqDiff, Nat.reduceLT, Nat.reduceLeDiff, reduceCtorEq, Int.reduceBEq, Int.reduceBNe, Nat.reduceBEq, Int.reduceEq, Int.reduceToNat, Int.reduceLE, Int.reduceLT, Nat.reduceDiv, Int.reduceAdd, Int.reduceSub, Int.reduceMul, Int.reduceNeg, Int.reduceGT, Int.reduceGE, Nat.reduceMod, k61_59, sSub64_eq, ty_3, ty_22, ty_23, Int.sub_zero, Int.add_zero])
    | (with_reducible refine hX _ _ ?_; clear hX X)
    | (with_reducible refine opsD_nil_i ?_; try clear hall all)
    | (with_reducible refine keysB_i ?_; kernel_rfl)
    | ((with_reducible show clashK _ _ _ = true); kernel_rfl)
    | (with_reducible refine ops_nil_i ?_; try clear hall all)
    | (with_reducible refine opsN_nil_i ?_; try clear hall all)
    | (with_reducible refine hK _ _ ?_; clear hK K)
    | with_reducible refine thenP_normal_i ?_
    | (with_reducible refine zzr7 _ _ ?_; try clear zzr7 Kzzr7)
    | (with_reducible refine zzsr2 _ _ ?_; try clear zzsr2 Kzzsr2)
    | (with_reducible refine zzb1 _ _ ?_; try clear zzb1 Kzzb1)
    | (with_reducible refine zzr4 _ _ ?_; try clear zzr4 Kzzr4)
    | (with_reducible refine zzctmp11 _ _ ?_; try clear zzctmp11 Kzzctmp11)
    | (with_reducible refine zzr3 _ _ ?_; try clear zzr3 Kzzr3)
    | (with_reducible refine zzr2 _ _ ?_; try clear zzr2 Kzzr2)
    | (with_reducible refine zzr1 _ _ ?_; try clear zzr1 Kzzr1)
    | (with_reducible refine zzr0 _ _ ?_; try clear zzr0 Kzzr0)
    | (with_reducible refine awp_unroll (Nat.succ (Nat.succ (Nat.succ (Nat.succ (Nat.succ Nat.zero))))) ?_)
    | (with_reducible refine awp_seq_l (a := .region 7 _ _) [4, 5] ?_; intro Kzzr7 zzr7)
    | (with_reducible refine awp_seq_l (a := .seq (.region 2 _ _) _) [2, 4, 6] ?_; intro Kzzsr2 zzsr2)
    | (with_reducible refine awp_seq_l (a := .block 1 _) [2, 3, 4, 6, 9, 10] ?_; intro Kzzb1 zzb1)
    | (with_reducible refine awp_seq_l (a := .region 4 _ _) [2, 3, 4, 6, 7, 9, 10] ?_; intro Kzzr4 zzr4)
    | (with_reducible refine awp_seq_l (a := .cond (.tmp 11) _ _) [2, 3, 4, 6, 9, 10] ?_; intro Kzzctmp11 zzctmp11)
    | (with_reducible refine awp_seq_l (a := .region 3 _ _) [2, 3, 4, 6, 9, 10, 11] ?_; intro Kzzr3 zzr3)
    | (with_reducible refine awp_seq_l (a := .region 2 _ _) [2, 3, 4, 6, 9, 10] ?_; intro Kzzr2 zzr2)
    | (with_reducible refine awp_seq_l (a := .region 1 _ _) [2, 3, 4, 6] ?_; intro Kzzr1 zzr1)
    | (with_reducible refine awp_seq_l (a := .region 0 _ _) [2, 3, 4] ?_; intro Kzzr0 zzr0)
    | (with_reducible refine awp_seq_k ?_; intro K hK)
    | (with_reducible refine awp_region_a ?_; intro all hall K hK)
    | (with_reducible refine awp_draw_a (id := 5) ?_ ?_; kernel_rfl; intro all hall K hK)
    | (with_reducible refine awp_draw_n ?_ ?_; kernel_rfl; intro all hall K hK)
    | (with_reducible refine Chk_i ?_ ?_)
    | (with_reducible refine keysC_i ?_; kernel_rfl)
    | (with_reducible first | refine awp_block_i ?_ | refine awp_skip_i ?_ | refine awp_ret_i ?_ | refine awp_exit_i ?_ | refine thenP_ret_i ?_ | refine thenP_exit_i ?_ | refine lpP_ret_i ?_ | refine lpP_exit_i ?_ | refine unrP_succ_i ?_ | refine unrP_ret_i ?_ | refine unrP_exit_i ?_ | refine blockP_normal_i ?_ | refine blockP_ret_i ?_)
    | (with_reducible refine blockP_exit_i ?_; simp only [↓reduceIte, Nat.reduceEqDiff])
    | with_reducible refine lpP_normal_i ?_)
  all_goals (try clear zzr0; try clear Kzzr0)
  all_goals (try clear zzr1; try clear Kzzr1)
  all_goals (try clear zzr2; try clear Kzzr2)
  all_goals (try clear zzr3; try clear Kzzr3)
  all_goals (try clear zzctmp11; try clear Kzzctmp11)
  all_goals (try clear zzr4; try clear Kzzr4)
  all_goals (try clear zzb1; try clear Kzzb1)
  all_goals (try clear zzsr2; try clear Kzzsr2)
  all_goals (try clear zzr7; try clear Kzzr7)
  all_goals (try simp only [inR])
  all_goals first
    | omega
    | exact ⟨hp.1.1.1, hp.1.1.2, hp.2.1.1.1, hp.2.1.1.2⟩
    | skip
  obtain ⟨⟨x0, x1, x2, x3⟩, ⟨y0, y1, y2, y3⟩, hle⟩ := hp
  obtain ⟨f0, f1, f2, f3, f4⟩ := sub4 x0 x1 x2 x3 y0 y1 y2 y3 ite01 ite01 ite01 ite01 hle
  rw [f0, f1, f2, f3, f4]
  all_goals (first | rfl | exact ⟨rfl, rfl⟩)
theorem sound_61 : Sound Tryz.prog 61 .body (norm s61) := by
  refine sound_norm (sound_body Tryz.func61 (show Tryz.f61.body = some (code Tryz.f61) from rfl) (by kernel_rfl) tysOk G61_ok (drawOk_ok (by kernel_rfl) tysOk G61_ok) (by kernel_rfl) fun ds p r hs hp => ?_)
  unfold s61 at hs
  split at hs
  · cases hs; exact ⟨Nat.le_of_ble_eq_true (by kernel_rfl), wk61 _ _ _ _ _ _ _ _ hp⟩
  · cases hs
end Go.Proofs.AMT
set_option maxRecDepth 20000
namespace Go.Proofs.AMT
open Go.AM Go.AM.LN
attribute [local congr] bindO_congr bindS_congr bindG_congr awpOps_congr aOne_congr awp_congr aCond_congr awpD_congr dOne_congr keysB_congr nOne_congr thenP_congr blockP_congr Chk_congr Brk_congr
noncomputable def s62 : CSpec := fun ds => match ds with
  | [.v (.int .u64 x)] => some (True, .one (.v (.agg #[.int .u64 x, .int .u64 0, .int .u64 0, .int .u64 0])))
  | _ => none
theorem s62_eq (x : Int) : norm s62 [.v (.int .u64 x)] = some (True, .one (.v (.agg #[.int .u64 x, .int .u64 0, .int .u64 0, .int .u64 0]))) := rfl
noncomputable def G62 : Gam := []
theorem G62_ok : GamOk Tryz.prog G62 := gamOk_nil
set_option maxHeartbeats 20000000 in
theorem wk62 (x : Int) (hp : True) : awp ty G62 (code Tryz.f62) (retP ty Tryz.f62.results.toList (.one (.v (.agg #[.int .u64 x, .int .u64 0, .int .u64 0, .int .u64 0])))) (entry 0 [.v (.int .u64 x)]) [] := by
  unfold code
  simp only [Tryz.f62, Option.getD_some]
  all_goals repeat' (first
    | ((first
       | (with_reducible refine ops_k ?_; intro X hX)
       | (with_reducible refine opsN_k ?_; intro X hX)
       | (with_reducible show awp _ _ _ _ (keepL _ _) _)
       | with_reducible refine awp_cond_k ?_
       | (with_reducible refine Brk_i ?_ ?_ <;> intro hb <;> (try simp only [hb]) <;> have hq := hb <;> try simp only [decide_eq_true_eq, decide_eq_false_iff_not, gt_iff_lt, ge_iff_le, Int.not_lt, Int.not_le, beq_iff_eq, beq_eq_false_iff_ne, Bool.not_eq_true', Bool.not_eq_false', Bool.and_eq_true, Bool.or_eq_true, Bool.and_eq_false_imp, Bool.or_eq_false_iff, ne_eq, Classical.not_not] at hq)
       | with_reducible refine retP_ret_i ?_
       | with_reducible refine retP_normal_i ?_
       | (with_reducible (show bindG _ _ _ _ _); simp only [hall])) <;> try simp only [Go.AM.S1, Go.AM.S2, Go.AM.S3, Go.AM.S4, Go.AM.S5, Go.AM.S6, Go.AM.S7, Go.AM.S8, Go.AM.S9, Nat.reduceAdd, Nat.reduceMul, Nat.reduceSub, ↓reduceIte, Nat.reduceEqDiff, Nat.reduceLT, Nat.reduceLeDiff, reduceCtorEq, Int.reduceBEq, Int.reduceBNe, Nat.reduceBEq, Int.reduceEq, Int.reduceToNat, Int.reduceLE, Int.reduceLT, Nat.reduceDiv, Int.reduceAdd, Int.reduceSub, Int.reduceMul, Int.reduceNeg, Int.reduceGT, Int.reduceGE, Nat.reduceMod, ty_22, ty_23])
    | (with_reducible refine hX _ _ ?_; clear hX X)
    | (with_reducible refine ops_nil_i ?_; try clear hall all)
    | (with_reducible refine opsN_nil_i ?_; try clear hall all)
    | (with_reducible refine hK _ _ ?_; clear hK K)
    | with_reducible refine thenP_normal_i ?_
    | (with_reducible refine zzr3 _ _ ?_; try clear zzr3 Kzzr3)
    | (with_reducible refine zzr2 _ _ ?_; try clear zzr2 Kzzr2)
    | (with_reducible refine zzr1 _ _ ?_; try clear zzr1 Kzzr1)
    | (with_reducible refine zzr0 _ _ ?_; try clear zzr0 Kzzr0)
    | (with_reducible refine awp_seq_l (a := .region 3 _ _) [2] ?_; intro Kzzr3 zzr3)
    | (with_reducible refine awp_seq_l (a := .region 2 _ _) [2, 3] ?_; intro Kzzr2 zzr2)
    | (with_reducible refine awp_seq_l (a := .region 1 _ _) [0, 2, 3] ?_; intro Kzzr1 zzr1)
    | (with_reducible refine awp_seq_l (a := .region 0 _ _) [0, 2] ?_; intro Kzzr0 zzr0)
    | (with_reducible refine awp_seq_k ?_; intro K hK)
    | (with_reducible refine awp_region_a ?_; intro all hall K hK)
    | (with_reducible refine awp_draw_n ?_ ?_; kernel_rfl; intro all hall K hK)
    | (with_reducible refine Chk_i ?_ ?_)
    | (with_reducible refine keysC_i ?_; kernel_rfl)
    | (with_reducible first | refine awp_block_i ?_ | refine awp_skip_i ?_ | refine awp_ret_i ?_ | refine awp_exit_i ?_ | refine thenP_ret_i ?_ | refine thenP_exit_i ?_ | refine lpP_ret_i ?_ | refine lpP_exit_i ?_ | refine unrP_succ_i ?_ | refine unrP_ret_i ?_ | refine unrP_exit_i ?_ | refine blockP_normal_i ?_ | refine blockP_ret_i ?_)
    | (with_reducible refine blockP_exit_i ?_; simp only [↓reduceIte, Nat.reduceEqDiff])
    | with_reducible refine lpP_normal_i ?_)
  all_goals (try clear zzr0; try clear Kzzr0)
  all_goals (try clear zzr1; try clear Kzzr1)
  all_goals (try clear zzr2; try clear Kzzr2)
  all_goals (try clear zzr3; try clear Kzzr3)
theorem sound_62 : Sound Tryz.prog 62 .body (norm s62) := by
  refine sound_norm (sound_body Tryz.func62 (show Tryz.f62.body = some (code Tryz.f62) from rfl) (by kernel_rfl) tysOk G62_ok (drawOk_ok (by kernel_rfl) tysOk G62_ok) (by kernel_rfl) fun ds p r hs hp => ?_)
  unfold s62 at hs
  split at hs
  · cases hs; exact ⟨Nat.le_of_ble_eq_true (by kernel_rfl), wk62 _ hp⟩
  · cases hs
end Go.Proofs.AMT
set_option maxRecDepth 20000
namespace Go.Proofs.AMT
open Go.AM Go.AM.LN
attribute [local congr] bindO_congr bindS_congr bindG_congr awpOps_congr aOne_congr awp_congr aCond_congr awpD_congr dOne_congr keysB_congr nOne_congr thenP_congr blockP_congr Chk_congr Brk_congr
noncomputable def s43 : CSpec := fun ds => match ds with
  | [.v (.int .i64 n)] => some (0 ≤ n ∧ n < 256, .one (.v (.agg #[.int .u64 (w4 (2 ^ n.toNat - 1) 0), .int .u64 (w4 (2 ^ n.toNat - 1) 1), .int .u64 (w4 (2 ^ n.toNat - 1) 2), .int .u64 (w4 (2 ^ n.toNat - 1) 3)])))
  | _ => none
theorem s43_eq (n : Int) : norm s43 [.v (.int .i64 n)] = some (0 ≤ n ∧ n < 256, .one (.v (.agg #[.int .u64 (w4 (2 ^ n.toNat - 1) 0), .int .u64 (w4 (2 ^ n.toNat - 1) 1), .int .u64 (w4 (2 ^ n.toNat - 1) 2), .int .u64 (w4 (2 ^ n.toNat - 1) 3)]))) := rfl
noncomputable def G43 : Gam := [(10, .body, norm s10), (61, .body, norm s61), (62, .body, norm s62)]
theorem G43_ok : GamOk Tryz.prog G43 := gamOk_cons sound_10 (gamOk_cons sound_61 (gamOk_cons sound_62 gamOk_nil))
theorem k43_10 : lk G43 10 = some (.body, norm s10) := rfl
theorem k43_61 : lk G43 61 = some (.body, norm s61) := rfl
theorem k43_62 : lk G43 62 = some (.body, norm s62) := rfl
set_option maxHeartbeats 20000000 in
theorem wk43 (n : Int) (hp : 0 ≤ n ∧ n < 256) : awp ty G43 (code Tryz.f43) (retP ty Tryz.f43.results.toList (.one (.v (.agg #[.int .u64 (w4 (2 ^ n.toNat - 1) 0), .int .u64 (w4 (2 ^ n.toNat - 1) 1), .int .u64 (w4 (2 ^ n.toNat - 1) 2), .int .u64 (w4 (2 ^ n.toNat - 1) 3)])))) (entry 0 [.v (.int .i64 n)]) [] := by
  unfold code
  simp only [Tryz.f43, Option.getD_some]
  obtain ⟨k, rfl⟩ := Int.eq_ofNat_of_zero_le hp.1
  have v1 : V4 1 0 0 0 = 1 := rfl
  have hlt : 2 ^ k < 2 ^ 256 := Nat.pow_lt_pow_right (by omega) (by omega)
  have hM : 2 ^ k % 2 ^ 256 = 2 ^ k := Nat.mod_eq_of_lt hlt
  have hV : V4 (w4 (2 ^ k) 0) (w4 (2 ^ k) 1) (w4 (2 ^ k) 2) (w4 (2 ^ k) 3) = 2 ^ k := V4_w4 hlt
  have g256 : decide ((k : Int) ≥ 256) = false := by simp only [decide_eq_false_iff_not]; omega
  have l0 := w4_lim (2 ^ k) 0
  have l1 := w4_lim (2 ^ k) 1
  have l2 := w4_lim (2 ^ k) 2
  have l3 := w4_lim (2 ^ k) 3
  have hpos := Nat.two_pow_pos k
  all_goals repeat' (first
    | ((first
       | (with_reducible refine ops_k ?_; intro X hX)
       | (with_reducible refine opsN_k ?_; intro X hX)
       | (with_reducible show awp _ _ _ _ (keepL _ _) _)
       | with_reducible refine awp_cond_k ?_
       | (with_reducible refine Brk_i ?_ ?_ <;> intro hb <;> (try simp only [hb]) <;> have hq := hb <;> try simp only [decide_eq_true_eq, decide_eq_false_iff_not, gt_iff_lt, ge_iff_le, Int.not_lt, Int.not_le, beq_iff_eq, beq_eq_false_iff_ne, Bool.not_eq_true', Bool.not_eq_false', Bool.and_eq_true, Bool.or_eq_true, Bool.and_eq_false_imp, Bool.or_eq_false_iff, ne_eq, Classical.not_not] at hq)
       | with_reducible refine retP_ret_i ?_
       | with_reducible refine retP_normal_i ?_
       | (with_reducible (show bindG _ _ _ _ _); simp only [hall])) <;> try simp only [Go.AM.S1, Go.AM.S2, Go.AM.S3, Go.AM.S4, Go.AM.S5, Go.AM.S6, Go.AM.S7, Go.AM.S8, Go.AM.S9, Nat.reduceAdd, Nat.reduceMul, Nat.reduceSub, ↓reduceIte, Nat.reduceEqDiff, Nat.reduceLT, Nat.reduceLeDiff, reduceCtorEq, Int.reduceBEq, Int.reduceBNe, Nat.reduceBEq, Int.reduceEq, Int.reduceToNat, Int.reduceLE, Int.reduceLT, Nat.reduceDiv, Int.reduceAdd, Int.reduceSub, Int.reduceMul, Int.reduceNeg, Int.reduceGT, Int.reduceGE, Nat.reduceMod, k43_10, s10_eq, k43_61, s61_eq, k43_62, s62_eq, ty_3, ty_22, ty_23, ty_24, v1, hV, hM, g256, Nat.one_mul])
    | (with_reducible refine hX _ _ ?_; clear hX X)
    | (with_reducible refine ops_nil_i ?_; try clear hall all)
    | (with_reducible refine opsN_nil_i ?_; try clear hall all)
    | (with_reducible refine hK _ _ ?_; clear hK K)
    | with_reducible refine thenP_normal_i ?_
    | (with_reducible refine zzr4 _ _ ?_; try clear zzr4 Kzzr4)
    | (with_reducible refine zzsr2 _ _ ?_; try clear zzsr2 Kzzsr2)
    | (with_reducible refine zzr2 _ _ ?_; try clear zzr2 Kzzr2)
    | (with_reducible refine zzr1 _ _ ?_; try clear zzr1 Kzzr1)
    | (with_reducible refine zzr0 _ _ ?_; try clear zzr0 Kzzr0)
    | (with_reducible refine awp_seq_l (a := .region 4 _ _) [2] ?_; intro Kzzr4 zzr4)
    | (with_reducible refine awp_seq_l (a := .seq (.region 2 _ _) _) [2, 3] ?_; intro Kzzsr2 zzsr2)
    | (with_reducible refine awp_seq_l (a := .region 2 _ _) [2, 3, 14] ?_; intro Kzzr2 zzr2)
    | (with_reducible refine awp_seq_l (a := .region 1 _ _) [0, 2, 3] ?_; intro Kzzr1 zzr1)
    | (with_reducible refine awp_seq_l (a := .region 0 _ _) [0, 2] ?_; intro Kzzr0 zzr0)
    | (with_reducible refine awp_seq_k ?_; intro K hK)
    | (with_reducible refine awp_region_a ?_; intro all hall K hK)
    | (with_reducible refine awp_draw_n ?_ ?_; kernel_rfl; intro all hall K hK)
    | (with_reducible refine Chk_i ?_ ?_)
    | (with_reducible refine keysC_i ?_; kernel_rfl)
    | (with_reducible first | refine awp_block_i ?_ | refine awp_skip_i ?_ | refine awp_ret_i ?_ | refine awp_exit_i ?_ | refine thenP_ret_i ?_ | refine thenP_exit_i ?_ | refine lpP_ret_i ?_ | refine lpP_exit_i ?_ | refine unrP_succ_i ?_ | refine unrP_ret_i ?_ | refine unrP_exit_i ?_ | refine blockP_normal_i ?_ | refine blockP_ret_i ?_)
    | (with_reducible refine blockP_exit_i ?_; simp only [↓reduceIte, Nat.reduceEqDiff])
    | with_reducible refine lpP_normal_i ?_)
  all_goals (try clear zzr0; try clear Kzzr0)
  all_goals (try clear zzr1; try clear Kzzr1)
  all_goals (try clear zzr2; try clear Kzzr2)
  all_goals (try clear zzsr2; try clear Kzzsr2)
  all_goals (try clear zzr4; try clear Kzzr4)
  all_goals (try simp only [inR])
  all_goals first
    | omega
    | exact ⟨⟨l0, l1, l2, l3⟩, ⟨by omega, by omega, by omega, by omega⟩, hpos⟩
    | skip
theorem sound_43 : Sound Tryz.prog 43 .body (norm s43) := by
  refine sound_norm (sound_body Tryz.func43 (show Tryz.f43.body = some (code Tryz.f43) from rfl) (by kernel_rfl) tysOk G43_ok (drawOk_ok (by kernel_rfl) tysOk G43_ok) (by kernel_rfl) fun ds p r hs hp => ?_)
  unfold s43 at hs
  split at hs
  · cases hs; exact ⟨Nat.le_of_ble_eq_true (by kernel_rfl), wk43 _ hp⟩
  · cases hs
end Go.Proofs.AMT
set_option maxRecDepth 20000
namespace Go.Proofs.AMT
open Go.AM Go.AM.LN
attribute [local congr] bindO_congr bindS_congr bindG_congr awpOps_congr aOne_congr awp_congr aCond_congr awpD_congr dOne_congr keysB_congr nOne_congr thenP_congr blockP_congr Chk_congr Brk_congr
noncomputable def s20 : CSpec := fun ds => match ds with
  | [.v (.agg ⟨[.int .u64 b0, .int .u64 b1, .int .u64 b2, .int .u64 b3]⟩), .v (.int .i64 p), .v (.int .i64 n)] => some (((0 ≤ b0 ∧ b0 < 18446744073709551616) ∧ (0 ≤ b1 ∧ b1 < 18446744073709551616) ∧ (0 ≤ b2 ∧ b2 < 18446744073709551616) ∧ (0 ≤ b3 ∧ b3 < 18446744073709551616)) ∧ (0 ≤ p ∧ p < 4000000000) ∧ 0 ≤ n ∧ n < 256, .one (.v (.agg #[.int .u64 (w4 ((V4 b0 b1 b2 b3) / 2 ^ p.toNat % 2 ^ n.toNat) 0), .int .u64 (w4 ((V4 b0 b1 b2 b3) / 2 ^ p.toNat % 2 ^ n.toNat) 1), .int .u64 (w4 ((V4 b0 b1 b2 b3) / 2 ^ p.toNat % 2 ^ n.toNat) 2), .int .u64 (w4 ((V4 b0 b1 b2 b3) / 2 ^ p.toNat % 2 ^ n.toNat) 3)])))
  | _ => none
theorem s20_eq (b0 b1 b2 b3 : Int) (p : Int) (n : Int) : norm s20 [.v (.agg #[.int .u64 b0, .int .u64 b1, .int .u64 b2, .int .u64 b3]), .v (.int .i64 p), .v (.int .i64 n)] = some (((0 ≤ b0 ∧ b0 < 18446744073709551616) ∧ (0 ≤ b1 ∧ b1 < 18446744073709551616) ∧ (0 ≤ b2 ∧ b2 < 18446744073709551616) ∧ (0 ≤ b3 ∧ b3 < 18446744073709551616)) ∧ (0 ≤ p ∧ p < 4000000000) ∧ 0 ≤ n ∧ n < 256, .one (.v (.agg #[.int .u64 (w4 ((V4 b0 b1 b2 b3) / 2 ^ p.toNat % 2 ^ n.toNat) 0), .int .u64 (w4 ((V4 b0 b1 b2 b3) / 2 ^ p.toNat % 2 ^ n.toNat) 1), .int .u64 (w4 ((V4 b0 b1 b2 b3) / 2 ^ p.toNat % 2 ^ n.toNat) 2), .int .u64 (w4 ((V4 b0 b1 b2 b3) / 2 ^ p.toNat % 2 ^ n.toNat) 3)]))) := rfl
noncomputable def G20 : Gam := [(41, .body, norm s41), (42, .body, norm s42), (43, .body, norm s43)]
theorem G20_ok : GamOk Tryz.prog G20 := gamOk_cons sound_41 (gamOk_cons sound_42 (gamOk_cons sound_43 gamOk_nil))
theorem k20_41 : lk G20 41 = some (.body, norm s41) := rfl
theorem k20_42 : lk G20 42 = some (.body, norm s42) := rfl
theorem k20_43 : lk G20 43 = some (.body, norm s43) := rfl
set_option maxHeartbeats 20000000 in
theorem wk20 (b0 b1 b2 b3 : Int) (p : Int) (n : Int) (hp : ((0 ≤ b0 ∧ b0 < 18446744073709551616) ∧ (0 ≤ b1 ∧ b1 < 18446744073709551616) ∧ (0 ≤ b2 ∧ b2 < 18446744073709551616) ∧ (0 ≤ b3 ∧ b3 < 18446744073709551616)) ∧ (0 ≤ p ∧ p < 4000000000) ∧ 0 ≤ n ∧ n < 256) : awp ty G20 (code Tryz.f20) (retP ty Tryz.f20.results.toList (.one (.v (.agg #[.int .u64 (w4 ((V4 b0 b1 b2 b3) / 2 ^ p.toNat % 2 ^ n.toNat) 0), .int .u64 (w4 ((V4 b0 b1 b2 b3) / 2 ^ p.toNat % 2 ^ n.toNat) 1), .int .u64 (w4 ((V4 b0 b1 b2 b3) / 2 ^ p.toNat % 2 ^ n.toNat) 2), .int .u64 (w4 ((V4 b0 b1 b2 b3) / 2 ^ p.toNat % 2 ^ n.toNat) 3)])))) (entry 0 [.v (.agg #[.int .u64 b0, .int .u64 b1, .int .u64 b2, .int .u64 b3]), .v (.int .i64 p), .v (.int .i64 n)]) [] := by
  unfold code
  simp only [Tryz.f20, Option.getD_some]
  all_goals repeat' (first
    | ((first
       | (with_reducible refine ops_k ?_; intro X hX)
       | (with_reducible refine opsN_k ?_; intro X hX)
       | (with_reducible show awp _ _ _ _ (keepL _ _) _)
       | with_reducible refine awp_cond_k ?_
       | (with_reducible refine Brk_i ?_ ?_ <;> intro hb <;> (try simp only [hb]) <;> have hq := hb <;> try simp only [decide_eq_true_eq, decide_eq_false_iff_not, gt_iff_lt, ge_iff_le, Int.not_lt, Int.not_le, beq_iff_eq, beq_eq_false_iff_ne, Bool.not_eq_true', Bool.not_eq_false', Bool.and_eq_true, Bool.or_eq_true, Bool.and_eq_false_imp, Bool.or_eq_false_iff, ne_eq, Classical.not_not] at hq)
       | with_reducible refine retP_ret_i ?_
       | with_reducible refine retP_normal_i ?_
       | (with_reducible (show bindG _ _ _ _ _); simp only [hall])) <;> try simp only [Go.AM.S1, Go.AM.S2, Go.AM.S3, Go.AM.S4, Go.AM.S5, Go.AM.S6, Go.AM.S7, Go.AM.S8, Go.AM.S9, Nat.reduceAdd, Nat.reduceMul, Nat.reduceSub, ↓reduceIte, Nat.reduceEqDiff, Nat.reduceLT, Nat.reduceLeDiff, reduceCtorEq, Int.reduceBEq, Int.reduceBNe, Nat.reduceBEq, Int.reduceEq, Int.reduceToNat, Int.reduceLE, Int.reduceLT, Nat.reduceDiv, Int.reduceAdd, Int.reduceSub, Int.reduceMul, Int.reduceNeg, Int.reduceGT, Int.reduceGE, Nat.reduceMod, k20_41, s41_eq, k20_42, s42_eq, k20_43, s43_eq, ty_3, ty_22, ty_23, ty_24, and_w4, Nat.and_two_pow_sub_one_eq_mod])
    | (with_reducible refine hX _ _ ?_; clear hX X)
    | (with_reducible refine ops_nil_i ?_; try clear hall all)
    | (with_reducible refine opsN_nil_i ?_; try clear hall all)
    | (with_reducible refine hK _ _ ?_; clear hK K)
    | with_reducible refine thenP_normal_i ?_
    | (with_reducible refine zzr1 _ _ ?_; try clear zzr1 Kzzr1)
    | (with_reducible refine zzr0 _ _ ?_; try clear zzr0 Kzzr0)
    | (with_reducible refine awp_seq_l (a := .region 1 _ _) [6] ?_; intro Kzzr1 zzr1)
    | (with_reducible refine awp_seq_l (a := .region 0 _ _) [1, 2, 3, 6] ?_; intro Kzzr0 zzr0)
    | (with_reducible refine awp_seq_k ?_; intro K hK)
    | (with_reducible refine awp_region_a ?_; intro all hall K hK)
    | (with_reducible refine awp_draw_n ?_ ?_; kernel_rfl; intro all hall K hK)
    | (with_reducible refine Chk_i ?_ ?_)
    | (with_reducible refine keysC_i ?_; kernel_rfl)
    | (with_reducible first | refine awp_block_i ?_ | refine awp_skip_i ?_ | refine awp_ret_i ?_ | refine awp_exit_i ?_ | refine thenP_ret_i ?_ | refine thenP_exit_i ?_ | refine lpP_ret_i ?_ | refine lpP_exit_i ?_ | refine unrP_succ_i ?_ | refine unrP_ret_i ?_ | refine unrP_exit_i ?_ | refine blockP_normal_i ?_ | refine blockP_ret_i ?_)
    | (with_reducible refine blockP_exit_i ?_; simp only [↓reduceIte, Nat.reduceEqDiff])
    | with_reducible refine lpP_normal_i ?_)
  all_goals (try clear zzr0; try clear Kzzr0)
  all_goals (try clear zzr1; try clear Kzzr1)
  all_goals first
    | omega
    | exact ⟨hp.1, hp.2.1⟩
    | skip
theorem sound_20 : Sound Tryz.prog 20 .body (norm s20) := by
  refine sound_norm (sound_body Tryz.func20 (show Tryz.f20.body = some (code Tryz.f20) from rfl) (by kernel_rfl) tysOk G20_ok (drawOk_ok (by kernel_rfl) tysOk G20_ok) (by kernel_rfl) fun ds p r hs hp => ?_)
  unfold s20 at hs
  split at hs
  · cases hs; exact ⟨Nat.le_of_ble_eq_true (by kernel_rfl), wk20 _ _ _ _ _ _ hp⟩
  · cases hs
end Go.Proofs.AMT
