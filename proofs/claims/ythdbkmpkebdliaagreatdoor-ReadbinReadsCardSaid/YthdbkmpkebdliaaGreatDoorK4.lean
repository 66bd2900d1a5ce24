/- Part 4 of the proof: own text. -/
import Derived.Test.YthdbkmpkebdliaaGreatDoorK3
set_option linter.all false
set_option maxHeartbeats 20000000
namespace Go.AM.LN
theorem V4_mul (a b c d p : Nat) : V4 a b c d * p = a * p + 18446744073709551616 * (b * p + 18446744073709551616 * (c * p + 18446744073709551616 * (d * p))) := by
  unfold V4
  simp only [val, Int.toNat_natCast, Nat.mul_zero, Nat.add_zero]
  simp only [Nat.add_mul, Nat.mul_assoc]
theorem V4_nat (a b c d : Nat) : V4 a b c d = a + 18446744073709551616 * (b + 18446744073709551616 * (c + 18446744073709551616 * d)) := by
  have := V4_mul a b c d 1
  simpa using this
theorem two256 : (2 : Nat) ^ 256 = 115792089237316195423570985008687907853269984665640564039457584007913129639936 := rfl
theorem shl4 {a b c d s w : Nat} (ha : a < 18446744073709551616) (hb : b < 18446744073709551616) (hc : c < 18446744073709551616) (hd : d < 18446744073709551616) (hs : s < 64) {o0 o1 o2 o3 : Nat}
    (ho : (w = 0 ∧ o0 = a * 2 ^ s % 18446744073709551616 ∧ o1 = b * 2 ^ s % 18446744073709551616 + a / 2 ^ (64 - s) ∧ o2 = c * 2 ^ s % 18446744073709551616 + b / 2 ^ (64 - s) ∧ o3 = d * 2 ^ s % 18446744073709551616 + c / 2 ^ (64 - s)) ∨
      (w = 1 ∧ o0 = 0 ∧ o1 = a * 2 ^ s % 18446744073709551616 ∧ o2 = b * 2 ^ s % 18446744073709551616 + a / 2 ^ (64 - s) ∧ o3 = c * 2 ^ s % 18446744073709551616 + b / 2 ^ (64 - s)) ∨
      (w = 2 ∧ o0 = 0 ∧ o1 = 0 ∧ o2 = a * 2 ^ s % 18446744073709551616 ∧ o3 = b * 2 ^ s % 18446744073709551616 + a / 2 ^ (64 - s)) ∨
      (w = 3 ∧ o0 = 0 ∧ o1 = 0 ∧ o2 = 0 ∧ o3 = a * 2 ^ s % 18446744073709551616) ∨ (4 ≤ w ∧ o0 = 0 ∧ o1 = 0 ∧ o2 = 0 ∧ o3 = 0)) :
    (V4 a b c d * 2 ^ (64 * w + s)) % 2 ^ 256 = V4 o0 o1 o2 o3 ∧ o0 < 18446744073709551616 ∧ o1 < 18446744073709551616 ∧ o2 < 18446744073709551616 ∧ o3 < 18446744073709551616 := by
  have ea := mul_mod_div ha (show s ≤ 64 by omega)
  have eb := mul_mod_div hb (show s ≤ 64 by omega)
  have ec := mul_mod_div hc (show s ≤ 64 by omega)
  have ed := mul_mod_div hd (show s ≤ 64 by omega)
  have la : a * 2 ^ s % 18446744073709551616 + (2 ^ s - 1) < 18446744073709551616 ∧ b * 2 ^ s % 18446744073709551616 + (2 ^ s - 1) < 18446744073709551616 ∧ c * 2 ^ s % 18446744073709551616 + (2 ^ s - 1) < 18446744073709551616 ∧ d * 2 ^ s % 18446744073709551616 + (2 ^ s - 1) < 18446744073709551616 := by
    have key : ∀ x : Nat, x * 2 ^ s % 18446744073709551616 + (2 ^ s - 1) < 18446744073709551616 := fun x => by
      have e : (18446744073709551616 : Nat) = 2 ^ (64 - s) * 2 ^ s := by rw [← Nat.pow_add, show 64 - s + s = 64 by omega]
      have h1 : x * 2 ^ s % 18446744073709551616 = x % 2 ^ (64 - s) * 2 ^ s := by rw [e, Nat.mul_mod_mul_right]
      have h2 : (x % 2 ^ (64 - s) + 1) * 2 ^ s ≤ 2 ^ (64 - s) * 2 ^ s := Nat.mul_le_mul_right _ (Nat.mod_lt _ (Nat.two_pow_pos _))
      rw [← e, Nat.add_mul, ← h1] at h2
      have := Nat.two_pow_pos s
      omega
    exact ⟨key a, key b, key c, key d⟩
  have lb := hi_lt ha (show s ≤ 64 by omega)
  have lc := hi_lt hb (show s ≤ 64 by omega)
  have ld := hi_lt hc (show s ≤ 64 by omega)
  have hm := V4_mul a b c d (2 ^ s)
  rw [Nat.pow_add, Nat.mul_comm (2 ^ (64 * w)), ← Nat.mul_assoc, hm, two256, V4_nat]
  have hp := Nat.two_pow_pos s
  generalize a * 2 ^ s % 18446744073709551616 = ma at *
  generalize b * 2 ^ s % 18446744073709551616 = mb at *
  generalize c * 2 ^ s % 18446744073709551616 = mc at *
  generalize d * 2 ^ s % 18446744073709551616 = md at *
  generalize a / 2 ^ (64 - s) = xa at *
  generalize b / 2 ^ (64 - s) = xb at *
  generalize c / 2 ^ (64 - s) = xc at *
  generalize d / 2 ^ (64 - s) = xd at *
  rw [← ea, ← eb, ← ec, ← ed]
  clear ea eb ec ed hm ha hb hc hd
  generalize 2 ^ s = p at *
  rcases ho with ⟨rfl, rfl, rfl, rfl, rfl⟩ | ⟨rfl, rfl, rfl, rfl, rfl⟩ | ⟨rfl, rfl, rfl, rfl, rfl⟩ | ⟨rfl, rfl, rfl, rfl, rfl⟩ | ⟨hw, rfl, rfl, rfl, rfl⟩
  · rw [show (2 : Nat) ^ (64 * 0) = 1 from rfl]; omega
  · rw [show (2 : Nat) ^ (64 * 1) = 18446744073709551616 from rfl]; omega
  · rw [show (2 : Nat) ^ (64 * 2) = 340282366920938463463374607431768211456 from rfl]; omega
  · rw [show (2 : Nat) ^ (64 * 3) = 6277101735386680763835789423207666416102355444464034512896 from rfl]; omega
  · obtain ⟨j, rfl⟩ : ∃ j, w = 4 + j := ⟨w - 4, by omega⟩
    rw [show 64 * (4 + j) = 256 + 64 * j by omega, Nat.pow_add, two256, Nat.mul_comm _ (115792089237316195423570985008687907853269984665640564039457584007913129639936 * _), Nat.mul_assoc, Nat.mul_mod_right]
    omega
theorem shr4 {a b c d s w : Nat} (ha : a < 18446744073709551616) (hb : b < 18446744073709551616) (hc : c < 18446744073709551616) (hd : d < 18446744073709551616) (hs : s < 64) {o0 o1 o2 o3 : Nat}
    (ho : (w = 0 ∧ o0 = a / 2 ^ s + b * 2 ^ (64 - s) % 18446744073709551616 ∧ o1 = b / 2 ^ s + c * 2 ^ (64 - s) % 18446744073709551616 ∧ o2 = c / 2 ^ s + d * 2 ^ (64 - s) % 18446744073709551616 ∧ o3 = d / 2 ^ s) ∨
      (w = 1 ∧ o0 = b / 2 ^ s + c * 2 ^ (64 - s) % 18446744073709551616 ∧ o1 = c / 2 ^ s + d * 2 ^ (64 - s) % 18446744073709551616 ∧ o2 = d / 2 ^ s ∧ o3 = 0) ∨
      (w = 2 ∧ o0 = c / 2 ^ s + d * 2 ^ (64 - s) % 18446744073709551616 ∧ o1 = d / 2 ^ s ∧ o2 = 0 ∧ o3 = 0) ∨
      (w = 3 ∧ o0 = d / 2 ^ s ∧ o1 = 0 ∧ o2 = 0 ∧ o3 = 0) ∨ (4 ≤ w ∧ o0 = 0 ∧ o1 = 0 ∧ o2 = 0 ∧ o3 = 0)) :
    V4 a b c d / 2 ^ (64 * w + s) = V4 o0 o1 o2 o3 := by
  have key : ∀ x : Nat, x * 2 ^ (64 - s) % 18446744073709551616 + 18446744073709551616 * (x / 2 ^ s) = x * 2 ^ (64 - s) := fun x => by
    have e : (18446744073709551616 : Nat) = 2 ^ s * 2 ^ (64 - s) := by rw [← Nat.pow_add, show s + (64 - s) = 64 by omega]
    have h1 : x * 2 ^ (64 - s) / 18446744073709551616 = x / 2 ^ s := by rw [e, Nat.mul_div_mul_right _ _ (Nat.two_pow_pos _)]
    have := Nat.div_add_mod (x * 2 ^ (64 - s)) 18446744073709551616
    omega
  have kb := key b
  have kc := key c
  have kd := key d
  rw [Nat.pow_add, ← Nat.div_div_eq_div_mul, V4_nat, V4_nat]
  have s0 : ∀ x y z t : Nat, (x + 18446744073709551616 * (y + 18446744073709551616 * (z + 18446744073709551616 * t))) / 2 ^ s = x / 2 ^ s + (y * 2 ^ (64 - s) + 18446744073709551616 * (z * 2 ^ (64 - s) + 18446744073709551616 * (t * 2 ^ (64 - s)))) := fun x y z t => by
    rw [shr_val (by omega)]
    simp only [Nat.add_mul, Nat.mul_assoc]
  rcases ho with ⟨rfl, rfl, rfl, rfl, rfl⟩ | ⟨rfl, rfl, rfl, rfl, rfl⟩ | ⟨rfl, rfl, rfl, rfl, rfl⟩ | ⟨rfl, rfl, rfl, rfl, rfl⟩ | ⟨hw, rfl, rfl, rfl, rfl⟩
  · rw [show (2 : Nat) ^ (64 * 0) = 1 from rfl, Nat.div_one, s0]; omega
  · rw [show (2 : Nat) ^ (64 * 1) = 18446744073709551616 from rfl, show (a + 18446744073709551616 * (b + 18446744073709551616 * (c + 18446744073709551616 * d))) / 18446744073709551616 = b + 18446744073709551616 * (c + 18446744073709551616 * (d + 18446744073709551616 * 0)) by omega, s0]; omega
  · rw [show (2 : Nat) ^ (64 * 2) = 340282366920938463463374607431768211456 from rfl, show (a + 18446744073709551616 * (b + 18446744073709551616 * (c + 18446744073709551616 * d))) / 340282366920938463463374607431768211456 = c + 18446744073709551616 * (d + 18446744073709551616 * (0 + 18446744073709551616 * 0)) by omega, s0]; omega
  · rw [show (2 : Nat) ^ (64 * 3) = 6277101735386680763835789423207666416102355444464034512896 from rfl, show (a + 18446744073709551616 * (b + 18446744073709551616 * (c + 18446744073709551616 * d))) / 6277101735386680763835789423207666416102355444464034512896 = d + 18446744073709551616 * (0 + 18446744073709551616 * (0 + 18446744073709551616 * 0)) by omega, s0]; omega
  · have : a + 18446744073709551616 * (b + 18446744073709551616 * (c + 18446744073709551616 * d)) < 2 ^ (64 * w) := by
      refine Nat.lt_of_lt_of_le (m := 2 ^ 256) ?_ (Nat.pow_le_pow_right (by omega) (by omega))
      rw [two256]; omega
    rw [Nat.div_eq_of_lt this]
    simp
theorem castShl (a s : Nat) : (a : Int) * 2 ^ s % 18446744073709551616 = ((a * 2 ^ s % 18446744073709551616 : Nat) : Int) := by
  rw [Int.natCast_emod, Int.natCast_mul, Int.natCast_pow]; rfl
theorem castShr (a s : Nat) : (a : Int) / 2 ^ s = ((a / 2 ^ s : Nat) : Int) := by
  rw [Int.natCast_ediv, Int.natCast_pow]; rfl
theorem shl_wordN {a b s : Nat} (ha : a < 18446744073709551616) (hb : b < 18446744073709551616) (hs : s < 64) : AM.bits .or .u64 ((b * 2 ^ s % 18446744073709551616 : Nat) : Int) ((a / 2 ^ (64 - s) : Nat) : Int) = ((b * 2 ^ s % 18446744073709551616 + a / 2 ^ (64 - s) : Nat) : Int) := by
  have := shl_word (x := b) (y := a) (s := s) ⟨by omega, by omega⟩ ⟨by omega, by omega⟩ (by omega)
  rw [castShl, castShr] at this
  simpa using this
theorem shr_wordN {a b s : Nat} (ha : a < 18446744073709551616) (hb : b < 18446744073709551616) (hs : s < 64) : AM.bits .or .u64 ((a / 2 ^ s : Nat) : Int) ((b * 2 ^ (64 - s) % 18446744073709551616 : Nat) : Int) = ((a / 2 ^ s + b * 2 ^ (64 - s) % 18446744073709551616 : Nat) : Int) := by
  have := shr_word (x := a) (y := b) (s := s) ⟨by omega, by omega⟩ ⟨by omega, by omega⟩ (by omega)
  rw [castShl, castShr] at this
  simpa using this
theorem hi0 {a s : Nat} (ha : a < 18446744073709551616) (hs : s = 0) : a / 2 ^ (64 - s) = 0 := by
  subst hs; exact Nat.div_eq_of_lt ha
theorem lo0 {a s : Nat} (hs : s = 0) : a * 2 ^ (64 - s) % 18446744073709551616 = 0 := by
  subst hs; rw [show (2 : Nat) ^ (64 - 0) = 18446744073709551616 from rfl]; exact Nat.mul_mod_left _ _
theorem w4_of {X o0 o1 o2 o3 : Nat} (h : X = V4 o0 o1 o2 o3) (h0 : o0 < 18446744073709551616) (h1 : o1 < 18446744073709551616) (h2 : o2 < 18446744073709551616) (h3 : o3 < 18446744073709551616) : (o0 : Int) = w4 X 0 ∧ (o1 : Int) = w4 X 1 ∧ (o2 : Int) = w4 X 2 ∧ (o3 : Int) = w4 X 3 := by
  subst h
  have f := w4_V4 (nat_lim h0) (nat_lim h1) (nat_lim h2) (nat_lim h3)
  exact ⟨f.1.symm, f.2.1.symm, f.2.2.1.symm, f.2.2.2.symm⟩
theorem agg4 {a b c d x y z t : Int} (h : a = x ∧ b = y ∧ c = z ∧ d = t) : Value.agg #[.int .u64 a, .int .u64 b, .int .u64 c, .int .u64 d] = Value.agg #[.int .u64 x, .int .u64 y, .int .u64 z, .int .u64 t] := by
  obtain ⟨rfl, rfl, rfl, rfl⟩ := h; rfl
theorem shl4w {a b c d s w k : Nat} (hk : k = 64 * w + s) (ha : a < 18446744073709551616) (hb : b < 18446744073709551616) (hc : c < 18446744073709551616) (hd : d < 18446744073709551616) (hs : s < 64) {o0 o1 o2 o3 : Nat}
    (ho : (w = 0 ∧ o0 = a * 2 ^ s % 18446744073709551616 ∧ o1 = b * 2 ^ s % 18446744073709551616 + a / 2 ^ (64 - s) ∧ o2 = c * 2 ^ s % 18446744073709551616 + b / 2 ^ (64 - s) ∧ o3 = d * 2 ^ s % 18446744073709551616 + c / 2 ^ (64 - s)) ∨
      (w = 1 ∧ o0 = 0 ∧ o1 = a * 2 ^ s % 18446744073709551616 ∧ o2 = b * 2 ^ s % 18446744073709551616 + a / 2 ^ (64 - s) ∧ o3 = c * 2 ^ s % 18446744073709551616 + b / 2 ^ (64 - s)) ∨
      (w = 2 ∧ o0 = 0 ∧ o1 = 0 ∧ o2 = a * 2 ^ s % 18446744073709551616 ∧ o3 = b * 2 ^ s % 18446744073709551616 + a / 2 ^ (64 - s)) ∨
      (w = 3 ∧ o0 = 0 ∧ o1 = 0 ∧ o2 = 0 ∧ o3 = a * 2 ^ s % 18446744073709551616) ∨ (4 ≤ w ∧ o0 = 0 ∧ o1 = 0 ∧ o2 = 0 ∧ o3 = 0)) :
    (o0 : Int) = w4 (V4 a b c d * 2 ^ k % 2 ^ 256) 0 ∧ (o1 : Int) = w4 (V4 a b c d * 2 ^ k % 2 ^ 256) 1 ∧ (o2 : Int) = w4 (V4 a b c d * 2 ^ k % 2 ^ 256) 2 ∧ (o3 : Int) = w4 (V4 a b c d * 2 ^ k % 2 ^ 256) 3 := by
  subst hk
  have h := shl4 ha hb hc hd hs ho
  exact w4_of h.1 h.2.1 h.2.2.1 h.2.2.2.1 h.2.2.2.2
theorem shr_lt {a b s : Nat} (ha : a < 18446744073709551616) (hb : b < 18446744073709551616) (hs : s < 64) : a / 2 ^ s + b * 2 ^ (64 - s) % 18446744073709551616 < 18446744073709551616 := by
  have h1 := shr_wordN ha hb hs
  have h2 := or_lim ((a / 2 ^ s : Nat) : Int) ((b * 2 ^ (64 - s) % 18446744073709551616 : Nat) : Int)
  rw [h1] at h2
  omega
theorem div_lt {a s : Nat} (ha : a < 18446744073709551616) : a / 2 ^ s < 18446744073709551616 := Nat.lt_of_le_of_lt (Nat.div_le_self _ _) ha
theorem shr4w {a b c d s w k : Nat} (hk : k = 64 * w + s) (ha : a < 18446744073709551616) (hb : b < 18446744073709551616) (hc : c < 18446744073709551616) (hd : d < 18446744073709551616) (hs : s < 64) {o0 o1 o2 o3 : Nat}
    (ho : (w = 0 ∧ o0 = a / 2 ^ s + b * 2 ^ (64 - s) % 18446744073709551616 ∧ o1 = b / 2 ^ s + c * 2 ^ (64 - s) % 18446744073709551616 ∧ o2 = c / 2 ^ s + d * 2 ^ (64 - s) % 18446744073709551616 ∧ o3 = d / 2 ^ s) ∨
      (w = 1 ∧ o0 = b / 2 ^ s + c * 2 ^ (64 - s) % 18446744073709551616 ∧ o1 = c / 2 ^ s + d * 2 ^ (64 - s) % 18446744073709551616 ∧ o2 = d / 2 ^ s ∧ o3 = 0) ∨
      (w = 2 ∧ o0 = c / 2 ^ s + d * 2 ^ (64 - s) % 18446744073709551616 ∧ o1 = d / 2 ^ s ∧ o2 = 0 ∧ o3 = 0) ∨
      (w = 3 ∧ o0 = d / 2 ^ s ∧ o1 = 0 ∧ o2 = 0 ∧ o3 = 0) ∨ (4 ≤ w ∧ o0 = 0 ∧ o1 = 0 ∧ o2 = 0 ∧ o3 = 0)) :
    (o0 : Int) = w4 (V4 a b c d / 2 ^ k) 0 ∧ (o1 : Int) = w4 (V4 a b c d / 2 ^ k) 1 ∧ (o2 : Int) = w4 (V4 a b c d / 2 ^ k) 2 ∧ (o3 : Int) = w4 (V4 a b c d / 2 ^ k) 3 := by
  subst hk
  have h := shr4 ha hb hc hd hs ho
  have l1 := shr_lt ha hb hs
  have l2 := shr_lt hb hc hs
  have l3 := shr_lt hc hd hs
  have l4 := div_lt (s := s) hd
  rcases ho with ⟨_, rfl, rfl, rfl, rfl⟩ | ⟨_, rfl, rfl, rfl, rfl⟩ | ⟨_, rfl, rfl, rfl, rfl⟩ | ⟨_, rfl, rfl, rfl, rfl⟩ | ⟨_, rfl, rfl, rfl, rfl⟩
  · exact w4_of h l1 l2 l3 l4
  · exact w4_of h l2 l3 l4 (by omega)
  · exact w4_of h l3 l4 (by omega) (by omega)
  · exact w4_of h l4 (by omega) (by omega) (by omega)
  · exact w4_of h (by omega) (by omega) (by omega) (by omega)
theorem V4_limbs {X : Nat} (h : X < 2 ^ 256) : V4 ((limbs X).getD 0 0) ((limbs X).getD 1 0) ((limbs X).getD 2 0) ((limbs X).getD 3 0) = X := by
  have e : ∀ i, (limbs X).getD i 0 = w4 X i := fun i => by
    have h1 := val_getD (limbs X) i (Ml X)
    rw [Vl] at h1
    have h2 := Mg (Ml X) (i := i)
    unfold w4
    omega
  rw [e, e, e, e]
  exact V4_w4 h
theorem kn_init {y1 y0 u n : Nat} (hy : 2147483648 ≤ y1) (h0 : y0 < 4294967296) (hn : n < 4294967296) (hu : u < y1 * 4294967296 + y0) :
    (u * 4294967296 + n) / (y1 * 4294967296 + y0) ≤ u / y1 ∧ u / y1 ≤ 4294967297 ∧ u = u / y1 * y1 + u % y1 ∧ u % y1 < y1 := by
  have hm : u % y1 < y1 := Nat.mod_lt _ (by omega)
  have he : u = u / y1 * y1 + u % y1 := by rw [Nat.mul_comm]; exact (Nat.div_add_mod u y1).symm
  refine ⟨?_, ?_, he, hm⟩
  · generalize u / y1 = q at *
    generalize u % y1 = r at *
    refine Nat.le_of_lt_succ ((Nat.div_lt_iff_lt_mul (by omega)).2 ?_)
    have h1 : u + 1 ≤ (q + 1) * y1 := by grind
    have h2 : (q + 1) * (y1 * 4294967296 + y0) = (q + 1) * y1 * 4294967296 + (q + 1) * y0 := by grind
    rw [Nat.succ_eq_add_one, h2]
    omega
  · refine Nat.le_of_lt_succ ((Nat.div_lt_iff_lt_mul (by omega)).2 ?_)
    omega
theorem kn_prod {q y0 : Nat} (h0 : y0 < 4294967296) (hq : q ≤ 4294967297) : q * y0 < 18446744073709551616 := by
  have : q * y0 ≤ 4294967297 * y0 := Nat.mul_le_mul_right _ hq
  omega
theorem kn_dec {y1 y0 u n q r : Nat} (hy : 2147483648 ≤ y1) (h0 : y0 < 4294967296) (hn : n < 4294967296) (hu : u < y1 * 4294967296 + y0) (he : u = q * y1 + r)
    (ht : 4294967296 ≤ q ∨ 4294967296 * r + n < q * y0) (hQ : (u * 4294967296 + n) / (y1 * 4294967296 + y0) ≤ q) :
    (u * 4294967296 + n) / (y1 * 4294967296 + y0) ≤ q - 1 ∧ 1 ≤ q ∧ u = (q - 1) * y1 + (r + y1) := by
  have h1 : (u * 4294967296 + n) / (y1 * 4294967296 + y0) < q := by
    rcases ht with ht | ht
    · refine Nat.lt_of_lt_of_le ((Nat.div_lt_iff_lt_mul (by omega)).2 ?_) ht
      omega
    · refine (Nat.div_lt_iff_lt_mul (by omega)).2 ?_
      have : q * (y1 * 4294967296 + y0) = q * y1 * 4294967296 + q * y0 := by grind
      omega
  generalize (u * 4294967296 + n) / (y1 * 4294967296 + y0) = X at *
  refine ⟨by omega, by omega, ?_⟩
  have hq1 : 1 ≤ q := by omega
  obtain ⟨p, rfl⟩ : ∃ p, q = p + 1 := ⟨q - 1, by omega⟩
  rw [he, Nat.add_sub_cancel]
  grind
theorem kn_brk {y1 y0 u n q r : Nat} (hy : 2147483648 ≤ y1) (h0 : y0 < 4294967296) (he : u = q * y1 + r) (hq : q ≤ 4294967296) (hr : 4294967296 ≤ r)
    (hQ : (u * 4294967296 + n) / (y1 * 4294967296 + y0) ≤ q) : (u * 4294967296 + n) / (y1 * 4294967296 + y0) = q := by
  refine Nat.le_antisymm hQ ((Nat.le_div_iff_mul_le (by omega)).2 ?_)
  have h1 : q * (y1 * 4294967296 + y0) = q * y1 * 4294967296 + q * y0 := by grind
  have h2 : q * y0 ≤ 4294967296 * y0 := Nat.mul_le_mul_right _ hq
  omega
theorem kn_fin {y1 y0 u n q r : Nat} (hy : 2147483648 ≤ y1) (he : u = q * y1 + r) (ht : q * y0 ≤ 4294967296 * r + n)
    (hQ : (u * 4294967296 + n) / (y1 * 4294967296 + y0) ≤ q) : (u * 4294967296 + n) / (y1 * 4294967296 + y0) = q := by
  refine Nat.le_antisymm hQ ((Nat.le_div_iff_mul_le (by omega)).2 ?_)
  have h1 : q * (y1 * 4294967296 + y0) = q * y1 * 4294967296 + q * y0 := by grind
  omega
theorem kn_rest {Y u n q : Nat} (hY : 0 < Y) (hq : (u * 4294967296 + n) / Y = q) : u * 4294967296 + n = q * Y + (u * 4294967296 + n) % Y ∧ (u * 4294967296 + n) % Y < Y := by
  subst hq
  exact ⟨by rw [Nat.mul_comm ((u * 4294967296 + n) / Y)]; exact (Nat.div_add_mod _ _).symm, Nat.mod_lt _ hY⟩
theorem kn_two {Y V u0 n1 n0 q1 q0 r1 r0 : Nat} (h1 : u0 * 4294967296 + n1 = q1 * Y + r1) (h2 : r1 * 4294967296 + n0 = q0 * Y + r0) (hr : r0 < Y) (hV : V = u0 * 18446744073709551616 + n1 * 4294967296 + n0) :
    V / Y = q1 * 4294967296 + q0 ∧ V % Y = r0 := by
  refine dm_add V Y _ _ (by omega) hr ?_
  grind
end Go.AM.LN
set_option maxRecDepth 20000
namespace Go.AM.LN
theorem and32 {a : Nat} (ha : a < 18446744073709551616) : AM.bits .and .u64 (a : Int) 4294967295 = ((a % 4294967296 : Nat) : Int) := by
  have h := and_mask (a := (a : Int)) 32 ⟨by omega, by omega⟩ (by omega)
  have e : ((2 : Int) ^ 32 - 1) = 4294967295 := rfl
  rw [e] at h
  rw [h]
  rfl
theorem d64_norm {y : Nat} (hy : 0 < y) (hyl : y < 18446744073709551616) : 64 - blen y ≤ 63 ∧ 9223372036854775808 ≤ y * 2 ^ (64 - blen y) ∧ y * 2 ^ (64 - blen y) < 18446744073709551616 := by
  have h1 : 1 ≤ blen y := by have := @blen_zero y; omega
  have h2 : blen y ≤ 64 := blen_lt.2 hyl
  have h3 := blen_mul (n := y) (by omega) (64 - blen y)
  have h4 : 2 ^ 63 ≤ y * 2 ^ (64 - blen y) := blen_le.1 (by omega)
  have h5 : y * 2 ^ (64 - blen y) < 2 ^ 64 := blen_lt.1 (by omega)
  exact ⟨by omega, h4, h5⟩
theorem d64_pre {h l y s Y : Nat} (hY : Y = y * 2 ^ s) (hYl : Y < 18446744073709551616) (hs : s ≤ 63) (hh : h < y) (hl : l < 18446744073709551616) :
    h * 2 ^ s % 18446744073709551616 + l / 2 ^ (64 - s) < Y ∧ (h * 2 ^ s % 18446744073709551616 + l / 2 ^ (64 - s)) * 18446744073709551616 + l * 2 ^ s % 18446744073709551616 = (h * 18446744073709551616 + l) * 2 ^ s := by
  have h1 := mul_mod_div hl (show s ≤ 64 by omega)
  have h2 := hi_lt hl (show s ≤ 64 by omega)
  have h3 : (h + 1) * 2 ^ s ≤ Y := by rw [hY]; exact Nat.mul_le_mul_right _ hh
  rw [Nat.add_mul, Nat.one_mul] at h3
  have h4 : h * 2 ^ s % 18446744073709551616 = h * 2 ^ s := Nat.mod_eq_of_lt (by omega)
  rw [h4, Nat.add_mul (h * 18446744073709551616), Nat.mul_right_comm]
  constructor <;> omega
theorem d64_fin {V y s Y q r : Nat} (hY : Y = y * 2 ^ s) (hq : V * 2 ^ s / Y = q) (hr : V * 2 ^ s % Y = r) : q = V / y ∧ r / 2 ^ s = V % y := by
  subst hY
  rw [Nat.mul_div_mul_right _ _ (Nat.two_pow_pos s)] at hq
  rw [Nat.mul_mod_mul_right] at hr
  exact ⟨hq.symm, by rw [← hr, Nat.mul_div_cancel _ (Nat.two_pow_pos s)]⟩
structure D64 (h l y s Y y1 y0 u n1 n0 Q1 R1 Q0 R0 : Nat) : Prop where
  hs : s ≤ 63
  hY : y * 2 ^ s = Y
  hYl : 9223372036854775808 ≤ Y ∧ Y < 18446744073709551616
  hy1 : Y / 4294967296 = y1
  hy0 : Y % 4294967296 = y0
  y1l : 2147483648 ≤ y1 ∧ y1 < 4294967296
  y0l : y0 < 4294967296
  Ye : y1 * 4294967296 + y0 = Y
  hu : h * 2 ^ s % 18446744073709551616 + l / 2 ^ (64 - s) = u
  hul : u < Y
  n1e : l * 2 ^ s % 18446744073709551616 / 4294967296 = n1
  n0e : l * 2 ^ s % 18446744073709551616 % 4294967296 = n0
  n1l : n1 < 4294967296
  n0l : n0 < 4294967296
  Q1e : (u * 4294967296 + n1) / (y1 * 4294967296 + y0) = Q1
  R1e : u * 4294967296 + n1 = Q1 * Y + R1
  R1l : R1 < Y
  Q0e : (R1 * 4294967296 + n0) / (y1 * 4294967296 + y0) = Q0
  R0e : R1 * 4294967296 + n0 = Q0 * Y + R0
  R0l : R0 < Y
  Q1l : Q1 < 4294967296
  Q0l : Q0 < 4294967296
  quo : Q1 * 4294967296 + Q0 = (h * 18446744073709551616 + l) / y
  rem : R0 / 2 ^ s = (h * 18446744073709551616 + l) % y
theorem d64_mk {h l y s : Nat} (hy : 0 < y) (hyl : y < 18446744073709551616) (hh : h < y) (hl : l < 18446744073709551616) (hse : 64 - blen y = s) :
    ∃ Y y1 y0 u n1 n0 Q1 R1 Q0 R0, D64 h l y s Y y1 y0 u n1 n0 Q1 R1 Q0 R0 := by
  obtain ⟨a1, a2, a3⟩ := d64_norm hy hyl
  rw [hse] at a1 a2 a3
  obtain ⟨Y, hY⟩ : ∃ Y, y * 2 ^ s = Y := ⟨_, rfl⟩
  rw [hY] at a2 a3
  obtain ⟨b1, b2⟩ := d64_pre hY.symm a3 a1 hh hl
  obtain ⟨u, hu⟩ : ∃ u, h * 2 ^ s % 18446744073709551616 + l / 2 ^ (64 - s) = u := ⟨_, rfl⟩
  rw [hu] at b1 b2
  obtain ⟨w, hw⟩ : ∃ w, l * 2 ^ s % 18446744073709551616 = w := ⟨_, rfl⟩
  have hwl : w < 18446744073709551616 := by rw [← hw]; exact Nat.mod_lt _ (Nat.lt_of_lt_of_eq (Nat.two_pow_pos 64) rfl)
  rw [hw] at b2
  have Ye : Y / 4294967296 * 4294967296 + Y % 4294967296 = Y := Nat.div_add_mod' Y 4294967296
  have hq1 : (u * 4294967296 + w / 4294967296) / (Y / 4294967296 * 4294967296 + Y % 4294967296) < 4294967296 := (Nat.div_lt_iff_lt_mul (by omega)).2 (by omega)
  have k1 := kn_rest (Y := Y) (u := u) (n := w / 4294967296) (q := (u * 4294967296 + w / 4294967296) / Y) (by omega) rfl
  obtain ⟨R1, hR1⟩ : ∃ R1, (u * 4294967296 + w / 4294967296) % Y = R1 := ⟨_, rfl⟩
  rw [hR1] at k1
  have k2 := kn_rest (Y := Y) (u := R1) (n := w % 4294967296) (q := (R1 * 4294967296 + w % 4294967296) / Y) (by omega) rfl
  have hq0 : (R1 * 4294967296 + w % 4294967296) / (Y / 4294967296 * 4294967296 + Y % 4294967296) < 4294967296 := (Nat.div_lt_iff_lt_mul (by omega)).2 (by omega)
  have k3 := kn_two (V := (h * 18446744073709551616 + l) * 2 ^ s) k1.1 k2.1 k2.2 (by omega)
  obtain ⟨c1, c2⟩ := d64_fin hY.symm k3.1 k3.2
  refine ⟨Y, Y / 4294967296, Y % 4294967296, u, w / 4294967296, w % 4294967296, (u * 4294967296 + w / 4294967296) / Y, R1, (R1 * 4294967296 + w % 4294967296) / Y, (R1 * 4294967296 + w % 4294967296) % Y, ?_⟩
  rw [Ye] at hq1 hq0
  exact { hs := a1, hY := hY, hYl := ⟨a2, a3⟩, hy1 := rfl, hy0 := rfl, y1l := by omega, y0l := by omega, Ye := Ye, hu := hu, hul := b1, n1e := by rw [hw], n0e := by rw [hw], n1l := by omega, n0l := by omega, Q1e := by rw [Ye], R1e := k1.1, R1l := k1.2, Q0e := by rw [Ye], R0e := k2.1, R0l := k2.2, Q1l := hq1, Q0l := hq0, quo := c1, rem := c2 }
theorem val_set {o : List Int} {j : Nat} (h : j < o.length) (v : Int) : val (o.set j v) + 2 ^ (64 * j) * (o.getD j 0).toNat = val o + 2 ^ (64 * j) * v.toNat := by
  have h1 := val_split h
  have h2 := val_split (a := o.set j v) (i := j) (by simpa using h)
  rw [take_set_lt (Nat.le_refl _), getD_set_self h, drop_set_succ] at h2
  generalize 2 ^ (64 * j) = p at *
  generalize val (o.drop (j + 1)) = d at *
  rw [h1, h2]
  grind
theorem pow64_add (i k : Nat) : 2 ^ (64 * (i + k)) = 2 ^ (64 * i) * 2 ^ (64 * k) := by rw [Nat.mul_add, Nat.pow_add]
theorem Pk (i : Nat) : 2 ^ (64 * (i + 1)) = 18446744073709551616 * 2 ^ (64 * i) := p64 i
theorem prod_le {x y : Nat} (hx : x < 18446744073709551616) (hy : y < 18446744073709551616) : x * y ≤ 340282366920938463426481119284349108225 := by
  have h1 : x * y ≤ 18446744073709551615 * y := Nat.mul_le_mul_right _ (by omega)
  omega
theorem mul_word {pr : Nat} {c w : Int} (h : pr ≤ 340282366920938463426481119284349108225) (hc : 0 ≤ c ∧ c < 18446744073709551616) (hw : 0 ≤ w ∧ w < 18446744073709551616) :
    ∃ c' s : Nat, (((((pr / 18446744073709551616 : Nat) : Int) + (((pr % 18446744073709551616 : Nat) : Int) + c + 0) / 18446744073709551616) % 18446744073709551616 + (w + (((pr % 18446744073709551616 : Nat) : Int) + c + 0) % 18446744073709551616 + 0) / 18446744073709551616) % 18446744073709551616 = (c' : Int)) ∧
      ((w + (((pr % 18446744073709551616 : Nat) : Int) + c + 0) % 18446744073709551616 + 0) % 18446744073709551616 = (s : Int)) ∧ pr + c.toNat + w.toNat = c' * 18446744073709551616 + s ∧ c' < 18446744073709551616 ∧ s < 18446744073709551616 := by
  refine ⟨(pr + c.toNat + w.toNat) / 18446744073709551616, (pr + c.toNat + w.toNat) % 18446744073709551616, ?_, ?_, ?_, ?_, ?_⟩ <;> omega
theorem mul_step {o b : List Int} {i k c c' s x P : Nat} (hj : i + k < o.length) (hI : val o + c * 2 ^ (64 * (i + k)) = P + x * 2 ^ (64 * i) * val (b.take k))
    (hw : x * (b.getD k 0).toNat + c + (o.getD (i + k) 0).toNat = c' * 18446744073709551616 + s) :
    val (o.set (i + k) (s : Int)) + c' * 2 ^ (64 * (i + (k + 1))) = P + x * 2 ^ (64 * i) * val (b.take (k + 1)) := by
  have h1 := val_set hj (s : Int)
  rw [Vt, show i + (k + 1) = (i + k) + 1 by omega, Pk, pow64_add] at *
  rw [Int.toNat_natCast] at h1
  generalize 2 ^ (64 * i) = p at *
  generalize 2 ^ (64 * k) = q at *
  generalize (o.getD (i + k) 0).toNat = w at *
  generalize (b.getD k 0).toNat = y at *
  generalize val (b.take k) = V at *
  have e : p * q * (c' * 18446744073709551616 + s) = p * q * (x * y + c + w) := by rw [hw]
  grind
theorem mul_row {o a : List Int} {i n c V : Nat} (hj : i + n < o.length) (h0 : o.getD (i + n) 0 = 0)
    (hI : val o + c * 2 ^ (64 * (i + n)) = val (a.take i) * V + (a.getD i 0).toNat * 2 ^ (64 * i) * V) : val (o.set (i + n) (c : Int)) = val (a.take (i + 1)) * V := by
  have h1 := val_set hj (c : Int)
  rw [h0, Int.toNat_natCast] at h1
  rw [Vt]
  grind
theorem getD_set_other {o : List Int} {i j : Nat} (h : i ≠ j) (v : Int) : (o.set i v).getD j 0 = o.getD j 0 := by
  simp only [List.getD, List.getElem?_set]
  rw [if_neg h]
theorem getD_zero_of_lt {o : List Int} {j : Nat} (lo : lim o) (h : val o < 2 ^ (64 * j)) : o.getD j 0 = 0 := by
  have h1 := val_getD o j lo
  rw [Nat.div_eq_of_lt h, Nat.zero_mod] at h1
  have h2 := Mg lo (i := j)
  omega
theorem prod_lt {a b : List Int} (la : lim a) (lb : lim b) (i : Nat) : val (a.take i) * val b < 2 ^ (64 * (i + b.length)) := by
  rw [pow64_add]
  exact Nat.mul_lt_mul'' (val_take_lt la i) (val_lt lb)
end Go.AM.LN
set_option maxRecDepth 20000
namespace Go.AM.LN
theorem or_low {w x : Int} {s : Nat} (hw : 0 ≤ w ∧ w.toNat < 2 ^ s) (hx : 0 ≤ x ∧ x < 18446744073709551616) (hs : s ≤ 63) :
    AM.bits .or .u64 w (x * 2 ^ s % 18446744073709551616) = ((w.toNat + x.toNat * 2 ^ s % 18446744073709551616 : Nat) : Int) := by
  obtain ⟨w, rfl⟩ := Int.eq_ofNat_of_zero_le hw.1
  obtain ⟨x, rfl⟩ := Int.eq_ofNat_of_zero_le hx.1
  have h1 := hw.2
  simp only [Int.toNat_natCast] at h1 ⊢
  have h2 : 2 ^ s ≤ 2 ^ 63 := Nat.pow_le_pow_right (by omega) hs
  have h3 : (2 : Nat) ^ 63 = 9223372036854775808 := rfl
  have h4 := or_shl (x := x) (show s ≤ 64 by omega) h1
  rw [castShl]
  have h5 : x * 2 ^ s % 18446744073709551616 < 18446744073709551616 := Nat.mod_lt _ (Nat.lt_of_lt_of_eq (Nat.two_pow_pos 64) rfl)
  rw [Nat.add_comm w, ← h4, Nat.or_comm]
  generalize x * 2 ^ s % 18446744073709551616 = q at *
  rw [or_u64 ⟨by omega, by omega⟩ ⟨by omega, by omega⟩, Int.toNat_natCast, Int.toNat_natCast]
theorem low_word {o : List Int} {i s V : Nat} (lo : lim o) (h : val o < 2 ^ (64 * i) * 2 ^ s) (hs : s ≤ 64) : (o.getD i 0).toNat < 2 ^ s := by
  have h1 := val_getD o i lo
  have h2 : val o / 2 ^ (64 * i) < 2 ^ s := (Nat.div_lt_iff_lt_mul (Nat.two_pow_pos _)).2 (by rw [Nat.mul_comm]; exact h)
  rw [← h1]
  exact Nat.lt_of_le_of_lt (Nat.mod_le _ _) h2
theorem shift_step0 {o a : List Int} {i s : Nat} (la : lim a) (hs : s = 0) (hi : i < o.length) (h : val o = val (a.take i) * 2 ^ s) (h0 : o.getD i 0 = 0) :
    val (o.set i (((a.getD i 0).toNat * 2 ^ s % 18446744073709551616 : Nat) : Int)) = val (a.take (i + 1)) * 2 ^ s := by
  have h1 := val_set hi (((a.getD i 0).toNat * 2 ^ s % 18446744073709551616 : Nat) : Int)
  have h2 := Mg la (i := i)
  subst hs
  rw [h0, Int.toNat_natCast] at h1
  rw [Vt]
  simp only [Nat.pow_zero, Nat.mul_one] at *
  rw [Nat.mod_eq_of_lt (by omega)] at *
  simp only [Int.toNat_zero, Nat.mul_zero, Nat.add_zero] at h1
  rw [h1, h]
theorem shift_step {o a : List Int} {i s w : Nat} (la : lim a) (hs : s ≤ 63) (hi : i + 1 < o.length) (h : val o = val (a.take i) * 2 ^ s) (hw : (o.getD i 0).toNat = w) (h1 : o.getD (i + 1) 0 = 0) :
    val ((o.set i ((w + (a.getD i 0).toNat * 2 ^ s % 18446744073709551616 : Nat) : Int)).set (i + 1) (((a.getD i 0).toNat / 2 ^ (64 - s) : Nat) : Int)) = val (a.take (i + 1)) * 2 ^ s := by
  have e1 := val_set (o := o) (j := i) (by omega) ((w + (a.getD i 0).toNat * 2 ^ s % 18446744073709551616 : Nat) : Int)
  have e2 := val_set (o := o.set i ((w + (a.getD i 0).toNat * 2 ^ s % 18446744073709551616 : Nat) : Int)) (j := i + 1) (by simpa using hi) (((a.getD i 0).toNat / 2 ^ (64 - s) : Nat) : Int)
  rw [getD_set_other (by omega), h1] at e2
  rw [hw] at e1
  have h2 := Mg la (i := i)
  have e3 := mul_mod_div (x := (a.getD i 0).toNat) (s := s) (by omega) (by omega)
  rw [Vt, Pk] at *
  simp only [Int.toNat_natCast, Int.toNat_zero, Nat.mul_zero, Nat.add_zero] at *
  generalize (a.getD i 0).toNat = x at *
  generalize x * 2 ^ s % 18446744073709551616 = lo at *
  generalize x / 2 ^ (64 - s) = hi' at *
  generalize 2 ^ (64 * i) = p at *
  generalize 2 ^ s = t at *
  rw [h] at e1
  generalize val (a.take i) = A at *
  have e4 : p * (lo + 18446744073709551616 * hi') = p * (x * t) := by rw [e3]
  grind
theorem shift_lt {o a : List Int} {i s : Nat} (la : lim a) (h : val o = val (a.take i) * 2 ^ s) : val o < 2 ^ (64 * i) * 2 ^ s := by
  rw [h]; exact Nat.mul_lt_mul_of_pos_right (val_take_lt la i) (Nat.two_pow_pos _)
theorem norm_top {b : List Int} (lb : lim b) (hs : sz b = b.length) (h2 : 2 ≤ b.length) :
    2 ^ (64 * b.length - 1) ≤ val b * 2 ^ (64 - blen (b.getD (b.length - 1) 0).toNat) ∧ val b * 2 ^ (64 - blen (b.getD (b.length - 1) 0).toNat) < 2 ^ (64 * b.length) := by
  have h1 := blen_top lb (by omega)
  rw [hs] at h1
  have h3 : 1 ≤ blen (b.getD (b.length - 1) 0).toNat := by
    have := sz_top (a := b) (by omega)
    rw [hs] at this
    have h5 := Mg lb (i := b.length - 1)
    have := @blen_zero (b.getD (b.length - 1) 0).toNat
    omega
  have h4 : blen (b.getD (b.length - 1) 0).toNat ≤ 64 := blen_lt.2 (by have := Mg lb (i := b.length - 1); omega)
  have hv : val b ≠ 0 := fun h => by
    rw [h] at h1
    have : blen 0 = 0 := rfl
    omega
  have h5 := blen_mul hv (64 - blen (b.getD (b.length - 1) 0).toNat)
  exact ⟨blen_le.1 (by omega), blen_lt.1 (by omega)⟩
theorem kd_guess {un u1 v1 W B P l q : Nat} (hP : 0 < P) (hW : W = (un * 18446744073709551616 + u1) * P + l) (hl : l < P) (hB : v1 * P ≤ B) (hv : 0 < v1) (hq : q * B ≤ W) :
    q ≤ (un * 18446744073709551616 + u1) / v1 := by
  refine (Nat.le_div_iff_mul_le hv).2 (Nat.le_of_lt_succ ?_)
  refine Nat.lt_of_mul_lt_mul_right (a := P) ?_
  have h1 : q * (v1 * P) ≤ q * B := Nat.mul_le_mul_left _ hB
  rw [Nat.succ_eq_add_one, Nat.add_mul, Nat.one_mul, Nat.mul_assoc]
  omega
theorem kd_great {un u1 u2 v1 v2 W B P l q g r : Nat} (hP : 0 < P) (hW : W = ((un * 18446744073709551616 + u1) * 18446744073709551616 + u2) * P + l) (hl : l < P) (hB : (v1 * 18446744073709551616 + v2) * P ≤ B)
    (hg : un * 18446744073709551616 + u1 = g * v1 + r) (ht : r * 18446744073709551616 + u2 < g * v2) (hq : q * B ≤ W) : q < g := by
  refine Classical.byContradiction fun hn => ?_
  have h1 : g * B ≤ W := Nat.le_trans (Nat.mul_le_mul_right _ (by omega)) hq
  have h2 : g * ((v1 * 18446744073709551616 + v2) * P) ≤ g * B := Nat.mul_le_mul_left _ hB
  have h3 : g * (v1 * 18446744073709551616 + v2) < (un * 18446744073709551616 + u1) * 18446744073709551616 + u2 + 1 := by
    refine Nat.lt_of_mul_lt_mul_right (a := P) ?_
    rw [Nat.add_mul ((un * 18446744073709551616 + u1) * 18446744073709551616 + u2), Nat.one_mul, Nat.mul_assoc]
    omega
  rw [hg] at h3
  grind
theorem kd_sub {u b : List Int} {i j c w c' w' g s U : Nat} (hj : j + i < u.length) (hI : val u + 2 ^ (64 * j) * g * val (b.take i) = U + (c + w) * 2 ^ (64 * (j + i)))
    (hw : s + g * (b.getD i 0).toNat + c + w = (u.getD (j + i) 0).toNat + 18446744073709551616 * (c' + w')) :
    val (u.set (j + i) (s : Int)) + 2 ^ (64 * j) * g * val (b.take (i + 1)) = U + (c' + w') * 2 ^ (64 * (j + (i + 1))) := by
  have h1 := val_set hj (s : Int)
  rw [Vt, show j + (i + 1) = (j + i) + 1 by omega, Pk, pow64_add] at *
  rw [Int.toNat_natCast] at h1
  generalize 2 ^ (64 * j) = p at *
  generalize 2 ^ (64 * i) = q at *
  generalize (u.getD (j + i) 0).toNat = x at *
  generalize (b.getD i 0).toNat = y at *
  generalize val (b.take i) = V at *
  have e : p * q * (s + g * y + c + w) = p * q * (x + 18446744073709551616 * (c' + w')) := by rw [hw]
  grind
theorem kd_last {u : List Int} {i j c w w' g s U B : Nat} (hj : j + i < u.length) (hI : val u + 2 ^ (64 * j) * g * B = U + (c + w) * 2 ^ (64 * (j + i)))
    (hw : s + c + w = (u.getD (j + i) 0).toNat + 18446744073709551616 * w') :
    val (u.set (j + i) (s : Int)) + 2 ^ (64 * j) * g * B = U + w' * 2 ^ (64 * (j + (i + 1))) := by
  have h1 := val_set hj (s : Int)
  rw [show j + (i + 1) = (j + i) + 1 by omega, Pk, pow64_add] at *
  rw [Int.toNat_natCast] at h1
  generalize 2 ^ (64 * j) = p at *
  generalize 2 ^ (64 * i) = q at *
  generalize (u.getD (j + i) 0).toNat = x at *
  have e : p * q * (s + c + w) = p * q * (x + 18446744073709551616 * w') := by rw [hw]
  grind
theorem kd_add {u b : List Int} {i j c c' s U : Nat} (hj : j + i < u.length) (hI : val u + c * 2 ^ (64 * (j + i)) = U + 2 ^ (64 * j) * val (b.take i))
    (hw : s + 18446744073709551616 * c' = (u.getD (j + i) 0).toNat + (b.getD i 0).toNat + c) :
    val (u.set (j + i) (s : Int)) + c' * 2 ^ (64 * (j + (i + 1))) = U + 2 ^ (64 * j) * val (b.take (i + 1)) := by
  have h1 := val_set hj (s : Int)
  rw [Vt, show j + (i + 1) = (j + i) + 1 by omega, Pk, pow64_add] at *
  rw [Int.toNat_natCast] at h1
  generalize 2 ^ (64 * j) = p at *
  generalize 2 ^ (64 * i) = q at *
  generalize (u.getD (j + i) 0).toNat = x at *
  generalize (b.getD i 0).toNat = y at *
  generalize val (b.take i) = V at *
  have e : p * q * (s + 18446744073709551616 * c') = p * q * (x + y + c) := by rw [hw]
  grind
theorem kd_addl {u : List Int} {i j c c' s U V : Nat} (hj : j + i < u.length) (hI : val u + c * 2 ^ (64 * (j + i)) = U + 2 ^ (64 * j) * V)
    (hw : s + 18446744073709551616 * c' = (u.getD (j + i) 0).toNat + 0 + c) :
    val (u.set (j + i) (s : Int)) + c' * 2 ^ (64 * (j + (i + 1))) = U + 2 ^ (64 * j) * V := by
  have h1 := val_set hj (s : Int)
  rw [show j + (i + 1) = (j + i) + 1 by omega, Pk, pow64_add] at *
  rw [Int.toNat_natCast] at h1
  generalize 2 ^ (64 * j) = p at *
  generalize 2 ^ (64 * i) = q at *
  generalize (u.getD (j + i) 0).toNat = x at *
  have e : p * q * (s + 18446744073709551616 * c') = p * q * (x + 0 + c) := by rw [hw]
  grind
end Go.AM.LN
namespace Go.AM.LN
theorem castShr2 {a : Int} {s : Nat} (h : 0 ≤ a) : a / 2 ^ s = ((a.toNat / 2 ^ s : Nat) : Int) := by
  obtain ⟨a, rfl⟩ := Int.eq_ofNat_of_zero_le h
  rw [castShr, Int.toNat_natCast]
theorem low_sum {w x s : Nat} (hs : s ≤ 63) (hw : w < 2 ^ s) : w + x * 2 ^ s % 18446744073709551616 < 18446744073709551616 := by
  have e : (18446744073709551616 : Nat) = 2 ^ (64 - s) * 2 ^ s := by rw [← Nat.pow_add, show 64 - s + s = 64 by omega]
  rw [e, Nat.mul_mod_mul_right]
  have h1 : x % 2 ^ (64 - s) < 2 ^ (64 - s) := Nat.mod_lt _ (Nat.two_pow_pos _)
  have h2 : (x % 2 ^ (64 - s) + 1) * 2 ^ s ≤ 2 ^ (64 - s) * 2 ^ s := Nat.mul_le_mul_right _ h1
  rw [Nat.add_mul, Nat.one_mul] at h2
  omega
end Go.AM.LN
set_option maxRecDepth 20000
namespace Go.AM.LN
theorem Vd (u : List Int) (i : Nat) : val (u.drop i) = (u.getD i 0).toNat + 18446744073709551616 * val (u.drop (i + 1)) := by
  by_cases h : i < u.length
  · rw [drop_cons h]; rfl
  · rw [List.drop_eq_nil_of_le (by omega), List.drop_eq_nil_of_le (by omega), getD_out (by omega)]; rfl
theorem sz_take_eq {u : List Int} (lu : lim u) {k : Nat} (h : val u < 2 ^ (64 * k)) : sz (u.take k) = sz u := by
  rw [← Lz lu, ← Lz (lim_take lu k), val_take _ _ lu, Nat.mod_eq_of_lt h]
theorem kd_init {a b : List Int} (la : lim a) (h2 : 2 ≤ b.length) (hb : 2 ^ (64 * b.length - 1) ≤ val b) : val a < val b * 2 ^ (64 * (a.length + 1 - b.length)) := by
  have h1 := val_lt la
  refine Nat.lt_of_lt_of_le h1 (Nat.le_trans ?_ (Nat.mul_le_mul_right _ hb))
  rw [← Nat.pow_add]
  exact Nat.pow_le_pow_right (by omega) (by omega)
theorem kd_words {u : List Int} {j n : Nat} (lu : lim u) (hn : 2 ≤ n) (h : val u < 2 ^ (64 * (j + n + 1))) :
    ∃ l, l < 2 ^ (64 * (n - 2)) ∧ val u / 2 ^ (64 * j) = (((u.getD (j + n) 0).toNat * 18446744073709551616 + (u.getD (j + n - 1) 0).toNat) * 18446744073709551616 + (u.getD (j + n - 2) 0).toNat) * 2 ^ (64 * (n - 2)) + l := by
  refine ⟨val ((u.drop j).take (n - 2)), val_take_lt (lim_drop lu _) _, ?_⟩
  rw [← val_drop _ _ lu]
  have e1 : val (u.drop j) = val ((u.drop j).take (n - 2)) + 2 ^ (64 * (n - 2)) * val ((u.drop j).drop (n - 2)) := by
    rw [val_take _ _ (lim_drop lu j), val_drop _ _ (lim_drop lu j), Nat.mod_add_div]
  have e2 := Vd u (j + (n - 2))
  have e3 := Vd u (j + (n - 2) + 1)
  have e4 := Vd u (j + (n - 2) + 1 + 1)
  have e5 : val (u.drop (j + (n - 2) + 1 + 1 + 1)) = 0 := by
    rw [val_drop _ _ lu]
    exact Nat.div_eq_of_lt (by rw [show j + (n - 2) + 1 + 1 + 1 = j + n + 1 by omega]; exact h)
  rw [e5] at e4
  rw [List.drop_drop] at e1
  rw [e1, e2, e3, e4, show j + (n - 2) + 1 + 1 = j + n by omega, show j + (n - 2) + 1 = j + n - 1 by omega, show j + (n - 2) = j + n - 2 by omega]
  generalize 2 ^ (64 * (n - 2)) = p
  grind
theorem kd_top {b : List Int} (lb : lim b) (hn : 2 ≤ b.length) :
    ∃ l, l < 2 ^ (64 * (b.length - 2)) ∧ val b = ((b.getD (b.length - 1) 0).toNat * 18446744073709551616 + (b.getD (b.length - 2) 0).toNat) * 2 ^ (64 * (b.length - 2)) + l := by
  refine ⟨val (b.take (b.length - 2)), val_take_lt lb _, ?_⟩
  have e1 : val b = val (b.take (b.length - 2)) + 2 ^ (64 * (b.length - 2)) * val (b.drop (b.length - 2)) := by
    rw [val_take _ _ lb, val_drop _ _ lb, Nat.mod_add_div]
  have e2 := Vd b (b.length - 2)
  have e3 := Vd b (b.length - 2 + 1)
  have e4 : val (b.drop (b.length - 2 + 1 + 1)) = 0 := by rw [List.drop_eq_nil_of_le (by omega)]; rfl
  rw [e4] at e3
  rw [show b.length - 2 + 1 = b.length - 1 by omega] at *
  generalize 2 ^ (64 * (b.length - 2)) = p at *
  grind
structure KD (u b : List Int) (j qd : Nat) : Prop where
  ql : qd < 18446744073709551616
  ub : val u < 2 ^ (64 * (j + b.length + 1))
  le : qd * val b * 2 ^ (64 * j) ≤ val u
  gt : val u < (qd + 1) * val b * 2 ^ (64 * j)
  top : 9223372036854775808 ≤ (b.getD (b.length - 1) 0).toNat
  init : (u.getD (j + b.length) 0).toNat < (b.getD (b.length - 1) 0).toNat → qd ≤ ((u.getD (j + b.length) 0).toNat * 18446744073709551616 + (u.getD (j + b.length - 1) 0).toNat) / (b.getD (b.length - 1) 0).toNat
  great : ∀ {g r : Nat}, (u.getD (j + b.length) 0).toNat * 18446744073709551616 + (u.getD (j + b.length - 1) 0).toNat = g * (b.getD (b.length - 1) 0).toNat + r →
    r * 18446744073709551616 + (u.getD (j + b.length - 2) 0).toNat < g * (b.getD (b.length - 2) 0).toNat → qd < g
theorem kd_mk {u b : List Int} {j : Nat} (lu : lim u) (lb : lim b) (hn : 2 ≤ b.length) (hb : 2 ^ (64 * b.length - 1) ≤ val b) (hu : val u < val b * 2 ^ (64 * (j + 1))) : KD u b j (val u / (val b * 2 ^ (64 * j))) := by
  have hp : 0 < 2 ^ (64 * j) := Nat.two_pow_pos _
  have hbp : 0 < val b := Nat.lt_of_lt_of_le (Nat.two_pow_pos _) hb
  have hbl := val_lt lb
  have hul : val u < 2 ^ (64 * (j + b.length + 1)) := by
    refine Nat.lt_of_lt_of_le hu ?_
    rw [show j + b.length + 1 = b.length + (j + 1) by omega, pow64_add b.length (j + 1)]
    exact Nat.mul_le_mul_right _ (Nat.le_of_lt hbl)
  obtain ⟨l, hl, hW⟩ := kd_words (j := j) (n := b.length) lu hn hul
  obtain ⟨lb', hlb, hB⟩ := kd_top lb hn
  have hP : 0 < 2 ^ (64 * (b.length - 2)) := Nat.two_pow_pos _
  have hqW : val u / (val b * 2 ^ (64 * j)) * val b ≤ val u / 2 ^ (64 * j) := by
    rw [Nat.mul_comm (val b), ← Nat.div_div_eq_div_mul]
    exact Nat.div_mul_le_self _ _
  have hle : val u / (val b * 2 ^ (64 * j)) * (val b * 2 ^ (64 * j)) ≤ val u := Nat.div_mul_le_self _ _
  have hgt : val u < (val u / (val b * 2 ^ (64 * j)) + 1) * (val b * 2 ^ (64 * j)) := by rw [Nat.mul_comm]; exact Nat.lt_mul_div_succ _ (Nat.mul_pos hbp hp)
  have hu1 := Mg lu (i := j + b.length - 1)
  have hu2 := Mg lu (i := j + b.length - 2)
  have hv1 := Mg lb (i := b.length - 1)
  have hv2 := Mg lb (i := b.length - 2)
  have htop : 9223372036854775808 ≤ (b.getD (b.length - 1) 0).toNat := by
    have e1 : val b < ((b.getD (b.length - 1) 0).toNat + 1) * 2 ^ (64 * (b.length - 1)) := by
      rw [show b.length - 1 = (b.length - 2) + 1 by omega, Pk]
      rw [show b.length - 2 + 1 = b.length - 1 by omega, hB]
      generalize 2 ^ (64 * (b.length - 2)) = p at *
      have e2 : (b.getD (b.length - 2) 0).toNat * p ≤ 18446744073709551615 * p := Nat.mul_le_mul_right _ (by omega)
      generalize (b.getD (b.length - 1) 0).toNat = v1 at *
      generalize (b.getD (b.length - 2) 0).toNat = v2 at *
      grind
    have e3 : 2 ^ (64 * b.length - 1) = 9223372036854775808 * 2 ^ (64 * (b.length - 1)) := by
      rw [show 64 * b.length - 1 = 63 + 64 * (b.length - 1) by omega, Nat.pow_add]
    rw [e3] at hb
    have e4 := Nat.lt_of_mul_lt_mul_right (Nat.lt_of_le_of_lt hb e1)
    omega
  generalize val u / (val b * 2 ^ (64 * j)) = qd at *
  refine ⟨?_, hul, by rw [Nat.mul_assoc]; exact hle, by rw [Nat.mul_assoc]; exact hgt, htop, fun hlt => ?_, fun {g r} hg ht => ?_⟩
  · have e1 : qd * (val b * 2 ^ (64 * j)) < 18446744073709551616 * (val b * 2 ^ (64 * j)) := by
      rw [Pk] at hu
      refine Nat.lt_of_le_of_lt hle (Nat.lt_of_lt_of_eq hu ?_)
      rw [Nat.mul_left_comm]
    exact Nat.lt_of_mul_lt_mul_right e1
  · refine kd_guess (P := 18446744073709551616 * 2 ^ (64 * (b.length - 2))) (W := val u / 2 ^ (64 * j)) (B := val b) (l := (u.getD (j + b.length - 2) 0).toNat * 2 ^ (64 * (b.length - 2)) + l) (by omega) ?_ ?_ ?_ (by omega) hqW
    · rw [hW]
      generalize 2 ^ (64 * (b.length - 2)) = p
      grind
    · have : (u.getD (j + b.length - 2) 0).toNat * 2 ^ (64 * (b.length - 2)) ≤ 18446744073709551615 * 2 ^ (64 * (b.length - 2)) := Nat.mul_le_mul_right _ (by omega)
      omega
    · rw [hB]
      generalize 2 ^ (64 * (b.length - 2)) = p
      generalize (b.getD (b.length - 1) 0).toNat = v1
      generalize (b.getD (b.length - 2) 0).toNat = v2
      grind
  · exact kd_great hP hW hl (by rw [hB]; omega) hg ht hqW
theorem kd_over {u u' b : List Int} {j qd g : Nat} (K : KD u b j qd) (lu : lim u') (hul : val u' < 2 ^ (64 * (j + b.length + 1))) (h : val u' + 2 ^ (64 * j) * g * val b = val u + 1 * 2 ^ (64 * (j + b.length + 1))) : qd < g := by
  have h1 : val u < 2 ^ (64 * j) * g * val b := by omega
  have h2 := K.le
  refine Nat.lt_of_mul_lt_mul_right (a := val b * 2 ^ (64 * j)) ?_
  have e1 : qd * (val b * 2 ^ (64 * j)) = qd * val b * 2 ^ (64 * j) := by rw [Nat.mul_assoc]
  have e2 : g * (val b * 2 ^ (64 * j)) = 2 ^ (64 * j) * g * val b := by grind
  rw [e1, e2]; omega
theorem kd_exact {u u' b : List Int} {j qd g : Nat} (K : KD u b j qd) (hb : 0 < val b) (hq : qd ≤ g) (h : val u' + 2 ^ (64 * j) * g * val b = val u) : g = qd ∧ val u' < val b * 2 ^ (64 * j) := by
  have h1 := K.gt
  have e2 : g * (val b * 2 ^ (64 * j)) = 2 ^ (64 * j) * g * val b := by grind
  have h2 : g * (val b * 2 ^ (64 * j)) < (qd + 1) * (val b * 2 ^ (64 * j)) := by rw [e2, ← Nat.mul_assoc]; omega
  have h3 : g < qd + 1 := Nat.lt_of_mul_lt_mul_right h2
  have h4 : g = qd := by omega
  refine ⟨h4, ?_⟩
  subst h4
  grind
theorem kd_next {u u' q b : List Int} {j g A : Nat} (hj : j < q.length) (hI : A = val (q.drop (j + 1)) * val b * 2 ^ (64 * (j + 1)) + val u) (h : val u' + 2 ^ (64 * j) * g * val b = val u) :
    A = val ((q.set j (g : Int)).drop j) * val b * 2 ^ (64 * j) + val u' := by
  rw [drop_set_cons hj]
  have : val ((g : Int) :: q.drop (j + 1)) = g + 18446744073709551616 * val (q.drop (j + 1)) := by
    show (g : Int).toNat + 18446744073709551616 * val (q.drop (j + 1)) = _
    rw [Int.toNat_natCast]
  rw [this, hI, ← h, Pk]
  grind
theorem tail_lt {u u' : List Int} {k : Nat} (lu : lim u) (lu' : lim u') (h : val u < 2 ^ (64 * k)) (hd : u'.drop k = u.drop k) : val u' < 2 ^ (64 * k) := by
  have h1 : val (u'.drop k) = 0 := by rw [hd, val_drop _ _ lu]; exact Nat.div_eq_of_lt h
  rw [val_drop _ _ lu'] at h1
  have h2 := Nat.div_add_mod (val u') (2 ^ (64 * k))
  rw [h1] at h2
  have h3 := Nat.mod_lt (val u') (Nat.two_pow_pos (64 * k))
  omega
theorem drop_succ_set {o u : List Int} {i : Nat} (v : Int) (h : o.drop i = u.drop i) : (o.set i v).drop (i + 1) = u.drop (i + 1) := by
  rw [drop_set_succ, drop_succ_of h]
theorem dec_eq {g v r X : Nat} (h : X = g * v + r) (hg : 1 ≤ g) : X = (g - 1) * v + (r + v) := by
  obtain ⟨p, rfl⟩ : ∃ p, g = p + 1 := ⟨g - 1, by omega⟩
  rw [h, Nat.add_sub_cancel]
  grind
theorem sub_word {pr : Nat} {c w : Nat} {x : Int} (h : pr ≤ 340282366920938463426481119284349108225) (hc : c < 18446744073709551616) (hw : w ≤ 1) (hx : 0 ≤ x ∧ x < 18446744073709551616) :
    ∃ c' w' s : Nat, ((((pr / 18446744073709551616 : Nat) : Int) + (((pr % 18446744073709551616 : Nat) : Int) + (c : Int) + 0) / 18446744073709551616) % 18446744073709551616 = (c' : Int)) ∧
      ((if x < (((pr % 18446744073709551616 : Nat) : Int) + (c : Int) + 0) % 18446744073709551616 + (w : Int) then (1 : Int) else 0) = (w' : Int)) ∧
      ((x - (((pr % 18446744073709551616 : Nat) : Int) + (c : Int) + 0) % 18446744073709551616 - (w : Int)) % 18446744073709551616 = (s : Int)) ∧
      s + pr + c + w = x.toNat + 18446744073709551616 * (c' + w') ∧ c' < 18446744073709551616 ∧ w' ≤ 1 ∧ s < 18446744073709551616 := by
  by_cases hlt : x < (((pr % 18446744073709551616 : Nat) : Int) + (c : Int) + 0) % 18446744073709551616 + (w : Int)
  · refine ⟨(pr + c) / 18446744073709551616, 1, x.toNat + 18446744073709551616 - (pr + c) % 18446744073709551616 - w, by omega, by rw [if_pos hlt]; rfl, ?_, ?_, ?_, ?_, ?_⟩ <;> omega
  · refine ⟨(pr + c) / 18446744073709551616, 0, x.toNat - (pr + c) % 18446744073709551616 - w, by omega, by rw [if_neg hlt]; rfl, ?_, ?_, ?_, ?_, ?_⟩ <;> omega
theorem sub_last {c w : Nat} {x : Int} (hc : c < 18446744073709551616) (hw : w ≤ 1) (hx : 0 ≤ x ∧ x < 18446744073709551616) :
    ∃ w' s : Nat, ((if x < (c : Int) + (w : Int) then (1 : Int) else 0) = (w' : Int)) ∧ ((x - (c : Int) - (w : Int)) % 18446744073709551616 = (s : Int)) ∧
      s + c + w = x.toNat + 18446744073709551616 * w' ∧ w' ≤ 1 ∧ s < 18446744073709551616 := by
  by_cases hlt : x < (c : Int) + (w : Int)
  · refine ⟨1, x.toNat + 18446744073709551616 - c - w, by rw [if_pos hlt]; rfl, ?_, ?_, ?_, ?_⟩ <;> omega
  · refine ⟨0, x.toNat - c - w, by rw [if_neg hlt]; rfl, ?_, ?_, ?_, ?_⟩ <;> omega
theorem add_word {c : Nat} {x y : Int} (hc : c ≤ 1) (hx : 0 ≤ x ∧ x < 18446744073709551616) (hy : 0 ≤ y ∧ y < 18446744073709551616) :
    ∃ c' s : Nat, ((x + y + (c : Int)) / 18446744073709551616 = (c' : Int)) ∧ ((x + y + (c : Int)) % 18446744073709551616 = (s : Int)) ∧ s + 18446744073709551616 * c' = x.toNat + y.toNat + c ∧ c' ≤ 1 ∧ s < 18446744073709551616 := by
  refine ⟨(x.toNat + y.toNat + c) / 18446744073709551616, (x.toNat + y.toNat + c) % 18446744073709551616, ?_, ?_, ?_, ?_, ?_⟩ <;> omega
theorem kd_back {U u2 v' b : List Int} {j P g c : Nat} (hg : 1 ≤ g) (hc : c ≤ 1) (h1 : val u2 + 2 ^ (64 * j) * g * val b = val U + 1 * P) (h2 : val v' + c * P = val u2 + 2 ^ (64 * j) * val b) :
    val v' + 2 ^ (64 * j) * (g - 1) * val b = val U + (1 - c) * P := by
  obtain ⟨p, rfl⟩ : ∃ p, g = p + 1 := ⟨g - 1, by omega⟩
  rw [Nat.add_sub_cancel]
  have hc2 : c = 0 ∨ c = 1 := by omega
  rcases hc2 with rfl | rfl <;> grind
def NB (b : List Int) : Prop := 2 ^ (64 * b.length - 1) ≤ val b
def QL (u b : List Int) (k g : Nat) : Prop := val u / (val b * 2 ^ (64 * (k - 1))) ≤ g
structure LO (a b u q : List Int) (k : Nat) : Prop where
  lu : lim u
  lq : lim q
  eq : val a = val (q.drop k) * val b * 2 ^ (64 * k) + val u
  lt : val u < val b * 2 ^ (64 * k)
structure LG (u b : List Int) (k g r : Nat) : Prop where
  ql : QL u b k g
  eq : (u.getD (k - 1 + b.length) 0).toNat * 18446744073709551616 + (u.getD (k - 1 + b.length - 1) 0).toNat = g * (b.getD (b.length - 1) 0).toNat + r
structure LM (u b : List Int) (k g i c w : Nat) (u' : List Int) : Prop where
  lu : lim u'
  dr : u'.drop (k - 1 + i) = u.drop (k - 1 + i)
  eq : val u' + 2 ^ (64 * (k - 1)) * g * val (b.take i) = val u + (c + w) * 2 ^ (64 * (k - 1 + i))
structure LY (u b : List Int) (k g w : Nat) (u' : List Int) : Prop where
  ql : QL u b k g
  lu : lim u'
  dr : u'.drop (k - 1 + b.length + 1) = u.drop (k - 1 + b.length + 1)
  eq : val u' + 2 ^ (64 * (k - 1)) * g * val b = val u + w * 2 ^ (64 * (k - 1 + (b.length + 1)))
structure LX (y b : List Int) (k i c : Nat) (u' : List Int) : Prop where
  lu : lim u'
  dr : u'.drop (k - 1 + i) = y.drop (k - 1 + i)
  eq : val u' + c * 2 ^ (64 * (k - 1 + i)) = val y + 2 ^ (64 * (k - 1)) * val (b.take i)
theorem lo_init {a b : List Int} (la : lim a) (h2 : 2 ≤ b.length) (hb : NB b) : LO a b (a ++ [0]) (List.replicate (a.length + 1 - b.length) 0) (a.length + 1 - b.length) :=
  ⟨lim_app.2 ⟨la, lim_one ⟨by omega, by omega⟩⟩, lim_rep _, by rw [List.drop_eq_nil_of_le (by simp), val_snoc]; simp [val], by rw [val_snoc]; simpa using kd_init la h2 hb⟩
theorem LO.kd {a b u q : List Int} {k : Nat} (h : LO a b u q k) (hk : 1 ≤ k) (lb : lim b) (h2 : 2 ≤ b.length) (hb : NB b) : KD u b (k - 1) (val u / (val b * 2 ^ (64 * (k - 1)))) :=
  kd_mk h.lu lb h2 hb (by rw [show k - 1 + 1 = k by omega]; exact h.lt)
theorem lg_init {a b u q : List Int} {k : Nat} (h : LO a b u q k) (hk : 1 ≤ k) (lb : lim b) (h2 : 2 ≤ b.length) (hb : NB b)
    (hlt : u.getD (k - 1 + b.length) 0 < b.getD (b.length - 1) 0) :
    (((u.getD (k - 1 + b.length) 0).toNat * 18446744073709551616 + (u.getD (k - 1 + b.length - 1) 0).toNat) / (b.getD (b.length - 1) 0).toNat < 18446744073709551616 ∧
    ((u.getD (k - 1 + b.length) 0).toNat * 18446744073709551616 + (u.getD (k - 1 + b.length - 1) 0).toNat) % (b.getD (b.length - 1) 0).toNat < 18446744073709551616) ∧
    LG u b k (((u.getD (k - 1 + b.length) 0).toNat * 18446744073709551616 + (u.getD (k - 1 + b.length - 1) 0).toNat) / (b.getD (b.length - 1) 0).toNat) (((u.getD (k - 1 + b.length) 0).toNat * 18446744073709551616 + (u.getD (k - 1 + b.length - 1) 0).toNat) % (b.getD (b.length - 1) 0).toNat) := by
  have K := h.kd hk lb h2 hb
  have h0 := Mg h.lu (i := k - 1 + b.length)
  have h1 := Mg h.lu (i := k - 1 + b.length - 1)
  have h3 := Mg lb (i := b.length - 1)
  have hlt' : (u.getD (k - 1 + b.length) 0).toNat < (b.getD (b.length - 1) 0).toNat := by omega
  have ini := K.init hlt'
  have top := K.top
  refine ⟨⟨(Nat.div_lt_iff_lt_mul (by omega)).2 (by omega), Nat.lt_trans (Nat.mod_lt _ (by omega)) (by omega)⟩, ini, (Nat.div_add_mod' _ _).symm⟩
theorem lg_dec {a b u q : List Int} {k g r : Nat} (h : LO a b u q k) (hk : 1 ≤ k) (lb : lim b) (h2 : 2 ≤ b.length) (hb : NB b) (H : LG u b k g r)
    (ht : r * 18446744073709551616 + (u.getD (k - 1 + b.length - 2) 0).toNat < g * (b.getD (b.length - 2) 0).toNat) : 1 ≤ g ∧ LG u b k (g - 1) (r + (b.getD (b.length - 1) 0).toNat) := by
  have K := h.kd hk lb h2 hb
  have hg := K.great H.eq ht
  have hg1 : 1 ≤ g := by
    generalize val u / (val b * 2 ^ (64 * (k - 1))) = qd at *
    omega
  refine ⟨hg1, ?_, dec_eq H.eq hg1⟩
  have : val u / (val b * 2 ^ (64 * (k - 1))) ≤ g - 1 := by
    generalize val u / (val b * 2 ^ (64 * (k - 1))) = qd at *
    omega
  exact this
theorem ql_top {a b u q : List Int} {k : Nat} (h : LO a b u q k) (hk : 1 ≤ k) (lb : lim b) (h2 : 2 ≤ b.length) (hb : NB b) : QL u b k 18446744073709551615 := by
  have K := (h.kd hk lb h2 hb).ql
  have : val u / (val b * 2 ^ (64 * (k - 1))) ≤ 18446744073709551615 := by
    generalize val u / (val b * 2 ^ (64 * (k - 1))) = qd at *
    omega
  exact this
theorem lm_init {u b : List Int} {k g : Nat} (lu : lim u) : LM u b k g 0 0 0 u := ⟨lu, rfl, by simp [val]⟩
theorem lm_step {u b u' : List Int} {k g i c w c' w' s : Nat} (H : LM u b k g i c w u') (hj : k - 1 + i < u'.length) (hs : s < 18446744073709551616)
    (hw : s + g * (b.getD i 0).toNat + c + w = (u'.getD (k - 1 + i) 0).toNat + 18446744073709551616 * (c' + w')) : LM u b k g (i + 1) c' w' (u'.set (k - 1 + i) (s : Int)) :=
  ⟨lim_set H.lu (nat_lim hs) _, by rw [show k - 1 + (i + 1) = k - 1 + i + 1 by omega]; exact drop_succ_set _ H.dr, kd_sub hj H.eq hw⟩
theorem lm_last {u b u' : List Int} {k g c w w' s : Nat} (H : LM u b k g b.length c w u') (hq : QL u b k g) (hj : k - 1 + b.length < u'.length) (hs : s < 18446744073709551616)
    (hw : s + c + w = (u'.getD (k - 1 + b.length) 0).toNat + 18446744073709551616 * w') : LY u b k g w' (u'.set (k - 1 + b.length) (s : Int)) :=
  ⟨hq, lim_set H.lu (nat_lim hs) _, drop_succ_set _ H.dr, kd_last hj (by have := H.eq; rw [List.take_length] at this; exact this) hw⟩
theorem lx_init {y b : List Int} {k : Nat} (ly : lim y) : LX y b k 0 0 y := ⟨ly, rfl, by simp [val]⟩
theorem lx_step {y b u' : List Int} {k i c c' s : Nat} (H : LX y b k i c u') (hj : k - 1 + i < u'.length) (hs : s < 18446744073709551616)
    (hw : s + 18446744073709551616 * c' = (u'.getD (k - 1 + i) 0).toNat + (b.getD i 0).toNat + c) : LX y b k (i + 1) c' (u'.set (k - 1 + i) (s : Int)) :=
  ⟨lim_set H.lu (nat_lim hs) _, by rw [show k - 1 + (i + 1) = k - 1 + i + 1 by omega]; exact drop_succ_set _ H.dr, kd_add hj H.eq hw⟩
theorem ly_over {a b u q u' : List Int} {k g : Nat} (h : LO a b u q k) (hk : 1 ≤ k) (lb : lim b) (h2 : 2 ≤ b.length) (hb : NB b) (H : LY u b k g 1 u') : val u / (val b * 2 ^ (64 * (k - 1))) < g := by
  have K := h.kd hk lb h2 hb
  exact kd_over K H.lu (tail_lt h.lu H.lu K.ub H.dr) H.eq
theorem ly_pos {a b u q u' : List Int} {k g : Nat} (h : LO a b u q k) (hk : 1 ≤ k) (lb : lim b) (h2 : 2 ≤ b.length) (hb : NB b) (H : LY u b k g 1 u') : 1 ≤ g := by
  have := ly_over h hk lb h2 hb H
  generalize val u / (val b * 2 ^ (64 * (k - 1))) = qd at *
  omega
theorem lx_last {a b u q y u' : List Int} {k g c c' s : Nat} (h : LO a b u q k) (hk : 1 ≤ k) (lb : lim b) (h2 : 2 ≤ b.length) (hb : NB b) (H : LY u b k g 1 y) (X : LX y b k b.length c u') (hj : k - 1 + b.length < u'.length) (hs : s < 18446744073709551616) (hc : c' ≤ 1)
    (hw : s + 18446744073709551616 * c' = (u'.getD (k - 1 + b.length) 0).toNat + 0 + c) : LY u b k (g - 1) (1 - c') (u'.set (k - 1 + b.length) (s : Int)) := by
  have h1 := ly_over h hk lb h2 hb H
  have e := X.eq
  rw [List.take_length] at e
  have h3 := kd_addl (V := val b) hj e hw
  refine ⟨?_, lim_set X.lu (nat_lim hs) _, ?_, ?_⟩
  · have : val u / (val b * 2 ^ (64 * (k - 1))) ≤ g - 1 := by
      generalize val u / (val b * 2 ^ (64 * (k - 1))) = qd at *
      omega
    exact this
  · rw [drop_succ_set _ X.dr, H.dr]
  · refine kd_back ?_ hc H.eq h3
    generalize val u / (val b * 2 ^ (64 * (k - 1))) = qd at *
    omega
theorem lo_next {a b u q u' : List Int} {k g : Nat} (h : LO a b u q k) (hk : 1 ≤ k) (lb : lim b) (h2 : 2 ≤ b.length) (hb : NB b) (hg : g < 18446744073709551616) (H : LY u b k g 0 u') (hq : k - 1 < q.length) : LO a b u' (q.set (k - 1) (g : Int)) (k - 1) := by
  have K := h.kd hk lb h2 hb
  have e : val u' + 2 ^ (64 * (k - 1)) * g * val b = val u := by rw [H.eq, Nat.zero_mul, Nat.add_zero]
  have hbp : 0 < val b := Nat.lt_of_lt_of_le (Nat.two_pow_pos _) hb
  refine ⟨H.lu, lim_set h.lq (nat_lim hg) _, kd_next hq (by rw [show k - 1 + 1 = k by omega]; exact h.eq) e, (kd_exact K hbp H.ql e).2⟩
theorem lo_fin {a b u q : List Int} (h : LO a b u q 0) (lb : lim b) (hb : NB b) : val q = val a / val b ∧ val u = val a % val b ∧ sz (u.take b.length) = sz u := by
  have hbp : 0 < val b := Nat.lt_of_lt_of_le (Nat.two_pow_pos _) hb
  have e := h.eq
  have l := h.lt
  rw [List.drop_zero, Nat.mul_zero, Nat.pow_zero, Nat.mul_one] at *
  have d := dm_add _ _ _ _ hbp l e
  exact ⟨d.1.symm, d.2.symm, sz_take_eq h.lu (Nat.lt_trans l (val_lt lb))⟩
theorem len_shift {a s : Nat} (hs : s ≤ 63) : (limbs (a * 2 ^ s)).length ≤ (limbs a).length + 1 := by
  refine len_le_of (Nat.lt_of_lt_of_le (Nat.mul_lt_mul_of_pos_right (lt_of_len (Nat.le_refl _)) (Nat.two_pow_pos s)) ?_)
  rw [← Nat.pow_add]
  exact Nat.pow_le_pow_right (by omega) (by omega)
theorem norm_len {b : List Int} {sh : Nat} (lb : lim b) (hs : sz b = b.length) (h2 : 2 ≤ b.length) (he : 64 - blen (b.getD (b.length - 1) 0).toNat = sh) : (limbs (val b * 2 ^ sh)).length = b.length ∧ NB (limbs (val b * 2 ^ sh)) := by
  obtain ⟨h1, h3⟩ := norm_top lb hs h2
  rw [he] at h1 h3
  have h4 := len_le_of h3
  have h5 : b.length ≤ (limbs (val b * 2 ^ sh)).length := by
    refine Classical.byContradiction fun hn => ?_
    have h6 := lt_of_len (n := val b * 2 ^ sh) (k := b.length - 1) (by omega)
    have h7 : 2 ^ (64 * (b.length - 1)) ≤ 2 ^ (64 * b.length - 1) := Nat.pow_le_pow_right (by omega) (by omega)
    omega
  have h6 : (limbs (val b * 2 ^ sh)).length = b.length := by omega
  exact ⟨h6, by unfold NB; rw [h6, Vl]; exact h1⟩
theorem shift_back {a b s : Nat} : a * 2 ^ s / (b * 2 ^ s) = a / b ∧ a * 2 ^ s % (b * 2 ^ s) / 2 ^ s = a % b := by
  refine ⟨Nat.mul_div_mul_right _ _ (Nat.two_pow_pos s), ?_⟩
  rw [Nat.mul_mod_mul_right, Nat.mul_div_cancel _ (Nat.two_pow_pos s)]
theorem val_one_word {b : List Int} (h : b.length = 1) : val b = (b.getD 0 0).toNat := by
  match b, h with
  | [x], _ => simp [val]
def upS (dir : Int) (sign odd : Bool) (half : Int) : Bool := if dir = 0 then decide (half > 0) || (half == 0 && odd) else if dir = 1 then decide (half ≥ 0) else if dir = 3 then !sign else if dir = 4 then sign else false
def divS (dir : Int) (sign : Bool) (x y : Nat) : Nat × Bool := if x % y = 0 then (x / y, true) else (if upS dir sign (x / y % 2 == 1) (cmpI (x % y) (y - x % y)) then x / y + 1 else x / y, false)
theorem divS_ex {d : Int} {s : Bool} {x y : Nat} (h : x % y = 0) : divS d s x y = (x / y, true) := if_pos h
theorem divS_up {d : Int} {s : Bool} {x y : Nat} (h : ¬ x % y = 0) (hu : upS d s (x / y % 2 == 1) (cmpI (x % y) (y - x % y)) = true) : divS d s x y = (x / y + 1, false) := by
  unfold divS; rw [if_neg h, if_pos hu]
theorem divS_dn {d : Int} {s : Bool} {x y : Nat} (h : ¬ x % y = 0) (hu : upS d s (x / y % 2 == 1) (cmpI (x % y) (y - x % y)) = false) : divS d s x y = (x / y, false) := by
  unfold divS; rw [if_neg h, if_neg (by rw [hu]; exact Bool.false_ne_true)]
theorem odd0 {q : Nat} (h : q = 0) : (q % 2 == 1) = false := by subst h; rfl

def infS (d : Int) (s : Bool) : Bool := if d = 0 then true else if d = 1 then true else if d = 3 then !s else if d = 4 then s else false
end Go.AM.LN
set_option maxRecDepth 20000
namespace Go.AM.LN
open Go
def fnm (n : Int) : ByteArray := ([⟨#[]⟩, ⟨#[72, 97, 108, 102]⟩, ⟨#[66, 114, 97, 105, 110]⟩, ⟨#[83, 105, 110, 103, 108, 101]⟩, ⟨#[68, 111, 117, 98, 108, 101]⟩, ⟨#[81, 117, 97, 100]⟩, ⟨#[79, 99, 116, 111]⟩, ⟨#[80, 108, 97, 105, 110, 51, 50]⟩, ⟨#[80, 108, 97, 105, 110, 54, 52]⟩, ⟨#[80, 108, 97, 105, 110, 49, 50, 56]⟩, ⟨#[68, 101, 110, 115, 101, 51, 50]⟩, ⟨#[68, 101, 110, 115, 101, 54, 52]⟩, ⟨#[68, 101, 110, 115, 101, 49, 50, 56]⟩] : List ByteArray).getD n.toNat ⟨#[]⟩
def fp (n : Int) : Int := [0, 11, 8, 24, 53, 113, 241, 7, 16, 34, 7, 16, 34].getD n.toNat 0
def fx (n : Int) : Int := [0, 5, 8, 8, 11, 15, 15, 96, 384, 6144, 96, 384, 6144].getD n.toNat 0
def fe (n : Int) : Int := [0, 15, 127, 127, 1023, 16383, 16383, 96, 384, 6144, 96, 384, 6144].getD n.toNat 0
def fb (n : Int) : Int := [0, 2, 2, 2, 2, 2, 2, 10, 10, 10, 10, 10, 10].getD n.toNat 0
def fw (n : Int) : Int := [0, 16, 16, 32, 64, 128, 256, 32, 64, 128, 32, 64, 128].getD n.toNat 0
def fl (n : Int) : Int := [0, 9, 6, 22, 51, 111, 239, 6, 15, 33, 6, 15, 33].getD n.toNat 0
def fd (n : Int) : Bool := decide (10 ≤ n)
def infoT (n : Int) : Value := .agg #[.int .i64 n, .string (fnm n), .int .i64 (fb n), .int .i64 (fw n), .int .i64 (fp n), .int .i64 (fx n), .int .i64 (2 - fe n - fp n), .int .i64 (fe n + 1 - fp n), .int .i64 (fl n), .bool (fd n)]
def infoZ : Value := .agg #[.int .i64 0, .string ⟨#[]⟩, .int .i64 0, .int .i64 0, .int .i64 0, .int .i64 0, .int .i64 0, .int .i64 0, .int .i64 0, .bool false]
def infoV (n : Int) : Value := if 1 ≤ n ∧ n ≤ 12 then infoT n else infoZ
def errV (n : Int) : Int := if 1 ≤ n ∧ n ≤ 12 then 0 else 1
theorem infoV_in {n : Int} (h : 1 ≤ n ∧ n ≤ 12) : infoV n = infoT n := if_pos h
theorem infoV_out {n : Int} (h : ¬ (1 ≤ n ∧ n ≤ 12)) : infoV n = infoZ := if_neg h
theorem errV_in {n : Int} (h : 1 ≤ n ∧ n ≤ 12) : errV n = 0 := if_pos h
theorem errV_out {n : Int} (h : ¬ (1 ≤ n ∧ n ≤ 12)) : errV n = 1 := if_neg h
structure BF (n : Int) : Prop where
  p8 : 8 ≤ fp n
  p241 : fp n ≤ 241
  x5 : 5 ≤ fx n
  x15 : fx n ≤ 15
  e15 : 15 ≤ fe n
  e16 : fe n ≤ 16383
  b2 : fb n = 2
  w : fw n = fp n + fx n
  l : fl n = fp n - 2
  ee : (2 : Int) ^ (fx n).toNat = 2 * fe n + 2
  nd : fd n = false
theorem bfmt {n : Int} (h : 1 ≤ n ∧ n ≤ 6) : BF n := by
  have hn : n = 1 ∨ n = 2 ∨ n = 3 ∨ n = 4 ∨ n = 5 ∨ n = 6 := by omega
  rcases hn with rfl | rfl | rfl | rfl | rfl | rfl <;> exact ⟨by decide, by decide, by decide, by decide, by decide, by decide, by decide, by decide, by decide, by decide, by decide⟩
theorem dfmt {n : Int} (h : 7 ≤ n ∧ n ≤ 12) : fb n = 10 := by
  have hn : n = 7 ∨ n = 8 ∨ n = 9 ∨ n = 10 ∨ n = 11 ∨ n = 12 := by omega
  rcases hn with rfl | rfl | rfl | rfl | rfl | rfl <;> rfl
def okB (n : Int) (V : Nat) : Bool := decide (1 ≤ n ∧ n ≤ 6) && decide ((blen V : Int) ≤ fw n)
def eS (cl n : Int) (C : Nat) (ex : Int) : Int := if cl = 1 then (if (blen C : Int) = fp n then ex - (2 - fe n - fp n) + 1 else 0) else 2 ^ (fx n).toNat - 1
def packF (n cl : Int) (si : Bool) (C : Nat) : Nat := if cl = 3 ∧ si = false then C % 2 ^ (fp n - 1).toNat ||| (1 * 2 ^ (fp n - 2).toNat % 2 ^ 256) else C % 2 ^ (fp n - 1).toNat
def packB (n cl : Int) (si : Bool) (C : Nat) (ex : Int) : Nat := packF n cl si C ||| ((eS cl n C ex).toNat * 2 ^ (fp n - 1).toNat % 2 ^ 256)
def packS (n cl : Int) (sg si : Bool) (C : Nat) (ex : Int) : Nat := if sg then packB n cl si C ex ||| (1 * 2 ^ (fw n - 1).toNat % 2 ^ 256) else packB n cl si C ex
def packX (n cl : Int) (sg si : Bool) (C X : Nat) (ex : Int) : Nat :=
  let B := (if cl = 3 ∧ si = false then X ||| (1 * 2 ^ (fp n - 2).toNat % 2 ^ 256) else X) ||| ((eS cl n C ex).toNat * 2 ^ (fp n - 1).toNat % 2 ^ 256)
  if sg then B ||| (1 * 2 ^ (fw n - 1).toNat % 2 ^ 256) else B
def isD (n cl : Int) (si : Bool) (C : Nat) (ex : Int) : Prop :=
  (cl = 1 ∧ si = false ∧ 2 - fe n - fp n ≤ ex ∧ ex ≤ fe n + 1 - fp n ∧ ((blen C : Int) = fp n ∨ ((blen C : Int) < fp n ∧ ex = 2 - fe n - fp n))) ∨
  (cl = 2 ∧ si = false ∧ blen C = 0 ∧ ex = 0) ∨ (cl = 3 ∧ ex = 0 ∧ (blen C : Int) ≤ fl n ∧ (blen C ≠ 0 ∨ si = false))
theorem V4_x (x : Int) : V4 x 0 0 0 = x.toNat := by unfold V4; simp [val]
theorem or_lt {x y : Nat} (hx : x < 2 ^ 256) (hy : y < 2 ^ 256) : x ||| y < 2 ^ 256 := Nat.or_lt_two_pow hx hy
theorem mod_lt256 (x : Nat) : x % 2 ^ 256 < 2 ^ 256 := Nat.mod_lt _ (Nat.two_pow_pos _)
end Go.AM.LN
set_option maxRecDepth 20000
namespace Go.Proofs.AMT
open Go.AM Go.AM.LN
attribute [local congr] bindO_congr bindS_congr bindG_congr awpOps_congr aOne_congr awp_congr aCond_congr awpD_congr dOne_congr keysB_congr nOne_congr thenP_congr blockP_congr Chk_congr Brk_congr
noncomputable def s74 : Cs := fun ds => match ds with
  | [.v (.int .i64 n)] => some (True, .many [.v (infoV n), .v (.int .i64 (errV n))])
  | _ => none
theorem s74_eq (n : Int) : norm s74 [.v (.int .i64 n)] = s74 [.v (.int .i64 n)] := rfl
noncomputable def G74 : Gam := []
theorem G74_ok : Gk Tryz.prog G74 := Gn
noncomputable def ofR (n : Int) : Option (Prop × Res) := (lk (GamN ty 1000 bodies extB 10) 74).bind fun s => s.2 [.v (.int .i64 n)]
theorem ofR_1 : ofR 1 = some (True, .many [.v (infoT 1), .v (.int .i64 0)]) := by kernel_rfl
theorem ofR_2 : ofR 2 = some (True, .many [.v (infoT 2), .v (.int .i64 0)]) := by kernel_rfl
theorem ofR_3 : ofR 3 = some (True, .many [.v (infoT 3), .v (.int .i64 0)]) := by kernel_rfl
theorem ofR_4 : ofR 4 = some (True, .many [.v (infoT 4), .v (.int .i64 0)]) := by kernel_rfl
theorem ofR_5 : ofR 5 = some (True, .many [.v (infoT 5), .v (.int .i64 0)]) := by kernel_rfl
theorem ofR_6 : ofR 6 = some (True, .many [.v (infoT 6), .v (.int .i64 0)]) := by kernel_rfl
theorem ofR_7 : ofR 7 = some (True, .many [.v (infoT 7), .v (.int .i64 0)]) := by kernel_rfl
theorem ofR_8 : ofR 8 = some (True, .many [.v (infoT 8), .v (.int .i64 0)]) := by kernel_rfl
theorem ofR_9 : ofR 9 = some (True, .many [.v (infoT 9), .v (.int .i64 0)]) := by kernel_rfl
theorem ofR_10 : ofR 10 = some (True, .many [.v (infoT 10), .v (.int .i64 0)]) := by kernel_rfl
theorem ofR_11 : ofR 11 = some (True, .many [.v (infoT 11), .v (.int .i64 0)]) := by kernel_rfl
theorem ofR_12 : ofR 12 = some (True, .many [.v (infoT 12), .v (.int .i64 0)]) := by kernel_rfl
theorem wk74 (n : Int) (hp : ¬ (1 ≤ n ∧ n ≤ 12)) : awp ty G74 (code Tryz.f74) (retP ty Tryz.f74.results.toList (.many [.v infoZ, .v (.int .i64 1)])) (entry 0 [.v (.int .i64 n)]) [] := by
  unfold code
  simp only [Tryz.f74, Option.getD_some]
  have hn : n < 1 ∨ (¬ n < 1 ∧ n > 12) := by omega
  rcases hn with h | h
  all_goals first
    | (have g1 : decide (n < 1) = true := by simp only [decide_eq_true_eq]; omega)
    | (have g1 : decide (n < 1) = false := by simp only [decide_eq_false_iff_not]; omega)
    | (have g1 : decide ((4 : Int) ≥ 5) = false := rfl)
  all_goals first
    | (have g2 : decide (n > 12) = true := by simp only [decide_eq_true_eq]; omega)
    | (have g2 : decide (n > 12) = false := by simp only [decide_eq_false_iff_not]; omega)
    | (have g2 : decide ((4 : Int) ≥ 5) = false := rfl)
  all_goals repeat' (first
 | ((with_reducible first | (refine ZA ?_; intro X hX) | (show awp _ _ _ _ (Kp _ _) _) | refine ZD ?_ | refine ZE ?_ | refine ZF ?_ | ((show Bg _ _ _ _ _); simp only [hall]) | (refine ZR ?_ ?_ <;> intro hb <;> (try simp only [hb]) <;> have hq := hb <;> try simp only [HQ] at hq)) <;> try simp only [Go.AM.SS, Nat.reduceAdd, Nat.reduceMul, Nat.reduceSub, ↓reduceIte, Nat.reduceEqDiff, Nat.reduceLT, Nat.reduceLeDiff, reduceCtorEq, Int.reduceBEq, Int.reduceBNe, Nat.reduceBEq, Int.reduceEq, Int.reduceToNat, Int.reduceLE, Int.reduceLT, Nat.reduceDiv, Int.reduceAdd, Int.reduceSub, Int.reduceMul, Int.reduceNeg, Int.reduceGT, Int.reduceGE, Nat.reduceMod, ty_3, ty_4, ty_9, ty_95, ty_156, g1, g2])
 | with_reducible first
 | (refine hX _ _ ?_; clear hX X)
 | (refine ZG ?_; try clear hall all)
 | (refine hK _ _ ?_; clear hK K)
 | refine ZL ?_
 | (refine v_0 _ _ ?_; try clear v_0 V_0)
 | (refine v_1 _ _ ?_; try clear v_1 V_1)
 | ((first | refine qr 3 [2,3] ?_ | refine Zh (a := .seq (.region 1 _ _) _) [0,2] ?_ | refine qr 0 [0,2] ?_); intro V_0 v_0)
 | ((first | refine qr 2 [2,3] ?_ | refine qr 1 [0,2,9] ?_); intro V_1 v_1)
 | (refine ZM ?_; intro K hK)
 | (refine ZN ?_; intro all hall K hK)
 | (refine ZQ ?_ ?_)
 | refine ZT ?_ | refine ZU ?_ | refine ZW ?_)
  all_goals try clear v_1 V_1
  all_goals try clear v_0 V_0
  all_goals rfl
noncomputable def s74w : Cs := fun ds => match ds with
  | [.v (.int .i64 n)] => some (¬ (1 ≤ n ∧ n ≤ 12), .many [.v infoZ, .v (.int .i64 1)])
  | _ => none
theorem sound_74w : Sound Tryz.prog 74 .body s74w := by
  refine sound_body Tryz.func74 (show Tryz.f74.body = some (code Tryz.f74) from rfl) (by kernel_rfl) tysOk G74_ok (drawOk_ok (by kernel_rfl) tysOk G74_ok) (by kernel_rfl) fun ds p r hs hp => ?_
  unfold s74w at hs
  split at hs
  · cases hs; exact ⟨Nat.le_of_ble_eq_true (by kernel_rfl), wk74 _ hp⟩
  · cases hs
theorem sound_74c : ∀ n : Int, 1 ≤ n ∧ n ≤ 12 → ∃ spec : Cs, Sound Tryz.prog 74 .body spec ∧ spec [.v (.int .i64 n)] = some (True, .many [.v (infoT n), .v (.int .i64 0)]) := by
  intro n hn
  have hg := (GamN_ok (fuel := 1000) (P := Tryz.prog) (by kernel_rfl) tysOk extB_ok extB_free bodies_ok bodies_some 10).1
  have h : ofR n = some (True, .many [.v (infoT n), .v (.int .i64 0)]) := by
    have hn' : n = 1 ∨ n = 2 ∨ n = 3 ∨ n = 4 ∨ n = 5 ∨ n = 6 ∨ n = 7 ∨ n = 8 ∨ n = 9 ∨ n = 10 ∨ n = 11 ∨ n = 12 := by omega
    rcases hn' with rfl | rfl | rfl | rfl | rfl | rfl | rfl | rfl | rfl | rfl | rfl | rfl
    · exact ofR_1
    · exact ofR_2
    · exact ofR_3
    · exact ofR_4
    · exact ofR_5
    · exact ofR_6
    · exact ofR_7
    · exact ofR_8
    · exact ofR_9
    · exact ofR_10
    · exact ofR_11
    · exact ofR_12
  unfold ofR at h
  obtain ⟨⟨fk, spec⟩, h1, h2⟩ := Option.bind_eq_some_iff.1 h
  have hs := hg 74 fk spec h1
  have hfk : fk = .body := by
    have : (lk (GamN ty 1000 bodies extB 10) 74).map (·.1) = some .body := by kernel_rfl
    rw [h1] at this
    exact Option.some.inj this
  subst hfk
  exact ⟨spec, hs, h2⟩
theorem sound_74 : Sound Tryz.prog 74 .body (norm s74) := by
  refine Sn ?_
  obtain ⟨fn, h1, h2, h3, h4⟩ := sound_74w
  refine ⟨fn, h1, h2, h3, fun ds p r hs hp w vs hr => ?_⟩
  unfold s74 at hs
  split at hs
  · rename_i n
    cases hs
    by_cases hn : 1 ≤ n ∧ n ≤ 12
    · obtain ⟨spec, ⟨fn', h1', h2', h3', h4'⟩, h5⟩ := sound_74c n hn
      rw [infoV_in hn, errV_in hn]
      exact h4' _ _ _ h5 trivial w vs hr
    · rw [infoV_out hn, errV_out hn]
      exact h4 _ _ _ rfl hn w vs hr
  · cases hs
noncomputable def s91 : Cs := fun ds => match ds with
  | [.v (.int .i64 n), .v (.agg ⟨[.int .u64 b0, .int .u64 b1, .int .u64 b2, .int .u64 b3]⟩)] => some ((0 ≤ b0 ∧ b0 < 18446744073709551616) ∧ (0 ≤ b1 ∧ b1 < 18446744073709551616) ∧ (0 ≤ b2 ∧ b2 < 18446744073709551616) ∧ (0 ≤ b3 ∧ b3 < 18446744073709551616), .many [.v (infoV n), .v (.bool (okB n (V4 b0 b1 b2 b3)))])
  | _ => none
theorem s91_eq (n : Int) (b0 b1 b2 b3 : Int) : norm s91 [.v (.int .i64 n), .v (.agg #[.int .u64 b0, .int .u64 b1, .int .u64 b2, .int .u64 b3])] = s91 [.v (.int .i64 n), .v (.agg #[.int .u64 b0, .int .u64 b1, .int .u64 b2, .int .u64 b3])] := rfl
noncomputable def G91 : Gam := [(64, .body, norm s64), (74, .body, norm s74)]
theorem G91_ok : Gk Tryz.prog G91 := Gc sound_64 (Gc sound_74 Gn)
theorem k91_64 : lk G91 64 = some (.body, norm s64) := rfl
theorem k91_74 : lk G91 74 = some (.body, norm s74) := rfl
theorem wk91 (n : Int) (b0 b1 b2 b3 : Int) (hp : (0 ≤ b0 ∧ b0 < 18446744073709551616) ∧ (0 ≤ b1 ∧ b1 < 18446744073709551616) ∧ (0 ≤ b2 ∧ b2 < 18446744073709551616) ∧ (0 ≤ b3 ∧ b3 < 18446744073709551616)) : awp ty G91 (code Tryz.f91) (retP ty Tryz.f91.results.toList (.many [.v (infoV n), .v (.bool (okB n (V4 b0 b1 b2 b3)))])) (entry 0 [.v (.int .i64 n), .v (.agg #[.int .u64 b0, .int .u64 b1, .int .u64 b2, .int .u64 b3])]) [] := by
  unfold code
  simp only [Tryz.f91, Option.getD_some]
  have hn : (1 ≤ n ∧ n ≤ 6) ∨ (7 ≤ n ∧ n ≤ 12) ∨ ¬ (1 ≤ n ∧ n ≤ 12) := by omega
  rcases hn with h | h | h
  all_goals first
    | (have hI := infoV_in (n := n) (by omega))
    | (have hI := infoV_out h)
  all_goals first
    | (have hE := errV_in (n := n) (by omega))
    | (have hE := errV_out h)
  all_goals first
    | (have g1 : (fb n == 2) = true := by rw [(bfmt h).b2]; rfl)
    | (have g1 : (fb n == 2) = false := by rw [dfmt h]; rfl)
    | (have g1 : decide ((4 : Int) ≥ 5) = false := rfl)
  all_goals first
    | (have hO : okB n (V4 b0 b1 b2 b3) = decide ((blen (V4 b0 b1 b2 b3) : Int) ≤ fw n) := by unfold okB; rw [decide_eq_true h, Bool.true_and])
    | (have hO : okB n (V4 b0 b1 b2 b3) = false := by unfold okB; rw [decide_eq_false (by omega), Bool.false_and])
  all_goals repeat' (first
 | ((with_reducible first | (refine ZA ?_; intro X hX) | (refine ZB ?_; intro X hX) | (show awp _ _ _ _ (Kp _ _) _) | (refine hX _ _ _ _ ?_; clear hX X) | (refine ZC ?_; intro X hX) | refine ZD ?_ | refine ZE ?_ | refine ZF ?_ | ((show Bg _ _ _ _ _); simp only [hall]) | (refine ZR ?_ ?_ <;> intro hb <;> (try simp only [hb]) <;> have hq := hb <;> try simp only [HQ] at hq)) <;> try simp only [Go.AM.SS, Nat.reduceAdd, Nat.reduceMul, Nat.reduceSub, ↓reduceIte, Nat.reduceEqDiff, Nat.reduceLT, Nat.reduceLeDiff, reduceCtorEq, Int.reduceBEq, Int.reduceBNe, Nat.reduceBEq, Int.reduceEq, Int.reduceToNat, Int.reduceLE, Int.reduceLT, Nat.reduceDiv, Int.reduceAdd, Int.reduceSub, Int.reduceMul, Int.reduceNeg, Int.reduceGT, Int.reduceGE, Nat.reduceMod, k91_64, s64.eq_1, s64_eq, k91_74, s74.eq_1, s74_eq, ty_3, ty_4, ty_9, ty_22, ty_23, ty_24, ty_26, ty_95, hI, hE, g1, hO, infoT, infoZ])
 | with_reducible first
 | (refine hX _ _ ?_; clear hX X)
 | (refine ZI ?_; try clear hall all)
 | (refine ZJ ?_; kernel_rfl)
 | ((show clashK _ _ _ = true); kernel_rfl)
 | (refine ZG ?_; try clear hall all)
 | (refine ZH ?_; try clear hall all)
 | (refine hK _ _ ?_; clear hK K)
 | refine ZL ?_
 | (refine v_0 _ _ ?_; try clear v_0 V_0)
 | ((first | refine qr 2 [4,5] ?_ | refine qr 1 [3,4,6,7] ?_ | refine qr 0 [0,3,4] ?_); intro V_0 v_0)
 | (refine ZM ?_; intro K hK)
 | (refine ZN ?_; intro all hall K hK)
 | (refine Da (id := 2) ?_ ?_; kernel_rfl; intro all hall K hK)
 | (refine ZO ?_ ?_; kernel_rfl; intro all hall K hK)
 | (refine ZQ ?_ ?_)
 | (refine ZK ?_; kernel_rfl)
 | refine ZT ?_ | refine ZU ?_ | refine ZW ?_)
  all_goals try clear v_0 V_0
  all_goals first
    | omega
    | exact hp
    | skip
theorem sound_91 : Sound Tryz.prog 91 .body (norm s91) := by
  refine sb Tryz.func91 rfl (by kernel_rfl) G91_ok (by kernel_rfl) fun ds p r hs hp => ?_
  unfold s91 at hs
  split at hs
  · cases hs; exact ⟨Nat.le_of_ble_eq_true (by kernel_rfl), wk91 _ _ _ _ _ hp⟩
  · cases hs
noncomputable def s187 : Cs := fun ds => match ds with
  | [.v (.agg ⟨[.int .u64 a0, .int .u64 a1, .int .u64 a2, .int .u64 a3]⟩), .v (.agg ⟨[.int .u64 b0, .int .u64 b1, .int .u64 b2, .int .u64 b3]⟩)] => some (True, .one (.v (.agg #[.int .u64 (AM.bits .and .u64 a0 b0), .int .u64 (AM.bits .and .u64 a1 b1), .int .u64 (AM.bits .and .u64 a2 b2), .int .u64 (AM.bits .and .u64 a3 b3)])))
  | _ => none
theorem s187_eq (a0 a1 a2 a3 : Int) (b0 b1 b2 b3 : Int) : norm s187 [.v (.agg #[.int .u64 a0, .int .u64 a1, .int .u64 a2, .int .u64 a3]), .v (.agg #[.int .u64 b0, .int .u64 b1, .int .u64 b2, .int .u64 b3])] = s187 [.v (.agg #[.int .u64 a0, .int .u64 a1, .int .u64 a2, .int .u64 a3]), .v (.agg #[.int .u64 b0, .int .u64 b1, .int .u64 b2, .int .u64 b3])] := rfl
noncomputable def G187 : Gam := []
theorem G187_ok : Gk Tryz.prog G187 := Gn
theorem wk187 (a0 a1 a2 a3 : Int) (b0 b1 b2 b3 : Int) (hp : True) : awp ty G187 (code Tryz.f187) (retP ty Tryz.f187.results.toList (.one (.v (.agg #[.int .u64 (AM.bits .and .u64 a0 b0), .int .u64 (AM.bits .and .u64 a1 b1), .int .u64 (AM.bits .and .u64 a2 b2), .int .u64 (AM.bits .and .u64 a3 b3)])))) (entry 0 [.v (.agg #[.int .u64 a0, .int .u64 a1, .int .u64 a2, .int .u64 a3]), .v (.agg #[.int .u64 b0, .int .u64 b1, .int .u64 b2, .int .u64 b3])]) [] := by
  unfold code
  simp only [Tryz.f187, Option.getD_some]
  all_goals repeat' (first
 | ((with_reducible first | (refine ZA ?_; intro X hX) | (refine ZB ?_; intro X hX) | (show awp _ _ _ _ (Kp _ _) _) | (refine hX _ _ _ _ ?_; clear hX X) | (refine ZC ?_; intro X hX) | refine ZD ?_ | refine ZE ?_ | refine ZF ?_ | ((show Bg _ _ _ _ _); simp only [hall]) | (refine ZR ?_ ?_ <;> intro hb <;> (try simp only [hb]) <;> have hq := hb <;> try simp only [HQ] at hq)) <;> try simp only [Go.AM.SS, Nat.reduceAdd, Nat.reduceMul, Nat.reduceSub, ↓reduceIte, Nat.reduceEqDiff, Nat.reduceLT, Nat.reduceLeDiff, reduceCtorEq, Int.reduceBEq, Int.reduceBNe, Nat.reduceBEq, Int.reduceEq, Int.reduceToNat, Int.reduceLE, Int.reduceLT, Nat.reduceDiv, Int.reduceAdd, Int.reduceSub, Int.reduceMul, Int.reduceNeg, Int.reduceGT, Int.reduceGE, Nat.reduceMod, ty_3, ty_22, ty_24])
 | with_reducible first
 | (refine hX _ _ ?_; clear hX X)
 | (refine ZI ?_; try clear hall all)
 | (refine ZJ ?_; kernel_rfl)
 | ((show clashK _ _ _ = true); kernel_rfl)
 | (refine ZG ?_; try clear hall all)
 | (refine ZH ?_; try clear hall all)
 | (refine hK _ _ ?_; clear hK K)
 | refine ZL ?_
 | (refine v_0 _ _ ?_; try clear v_0 V_0)
 | (refine v_1 _ _ ?_; try clear v_1 V_1)
 | (refine v_2 _ _ ?_; try clear v_2 V_2)
    | (with_reducible refine awp_unroll (Nat.succ (Nat.succ (Nat.succ (Nat.succ (Nat.succ Nat.zero))))) ?_)
 | ((first | refine qr 6 [4] ?_ | refine Zh (a := .seq (.region 1 _ _) _) [2,4] ?_ | refine qr 0 [2,3,4] ?_); intro V_0 v_0)
 | ((first | refine qb 1 [2,3,4,6] ?_ | refine Zh (a := .cond (.tmp 7) _ _) [2,3,4,6] ?_ | refine qr 2 [2,3,4,6,7] ?_ | refine qr 1 [2,3,4,6] ?_); intro V_1 v_1)
 | ((first | refine qr 3 [2,3,4,5,6] ?_); intro V_2 v_2)
 | (refine ZM ?_; intro K hK)
 | (refine ZN ?_; intro all hall K hK)
 | (refine Da (id := 4) ?_ ?_; kernel_rfl; intro all hall K hK)
 | (refine ZO ?_ ?_; kernel_rfl; intro all hall K hK)
 | (refine ZQ ?_ ?_)
 | (refine ZK ?_; kernel_rfl)
 | (refine Zg ?_; simp only [↓reduceIte, Nat.reduceEqDiff])
 | refine ZS ?_ | refine ZT ?_ | refine ZU ?_ | refine ZV ?_ | refine ZW ?_ | refine ZX ?_ | refine ZY ?_ | refine ZZ ?_ | refine Za ?_ | refine Zb ?_ | refine Zc ?_ | refine Zd ?_ | refine Ze ?_ | refine Zf ?_)
  all_goals try clear v_2 V_2
  all_goals try clear v_1 V_1
  all_goals try clear v_0 V_0
  all_goals (simp only [inR]; omega)
theorem sound_187 : Sound Tryz.prog 187 .body (norm s187) := by
  refine sb Tryz.func187 rfl (by kernel_rfl) G187_ok (by kernel_rfl) fun ds p r hs hp => ?_
  unfold s187 at hs
  split at hs
  · cases hs; exact ⟨Nat.le_of_ble_eq_true (by kernel_rfl), wk187 _ _ _ _ _ _ _ _ hp⟩
  · cases hs
noncomputable def s188 : Cs := fun ds => match ds with
  | [.v (.agg ⟨[.int .u64 a0, .int .u64 a1, .int .u64 a2, .int .u64 a3]⟩), .v (.int .i64 n)] => some (((0 ≤ a0 ∧ a0 < 18446744073709551616) ∧ (0 ≤ a1 ∧ a1 < 18446744073709551616) ∧ (0 ≤ a2 ∧ a2 < 18446744073709551616) ∧ (0 ≤ a3 ∧ a3 < 18446744073709551616)) ∧ 0 ≤ n ∧ n < 4000000000, .one (.v (.agg #[.int .u64 (w4 (V4 a0 a1 a2 a3 / 2 ^ n.toNat) 0), .int .u64 (w4 (V4 a0 a1 a2 a3 / 2 ^ n.toNat) 1), .int .u64 (w4 (V4 a0 a1 a2 a3 / 2 ^ n.toNat) 2), .int .u64 (w4 (V4 a0 a1 a2 a3 / 2 ^ n.toNat) 3)])))
  | _ => none
theorem s188_eq (a0 a1 a2 a3 : Int) (n : Int) : norm s188 [.v (.agg #[.int .u64 a0, .int .u64 a1, .int .u64 a2, .int .u64 a3]), .v (.int .i64 n)] = s188 [.v (.agg #[.int .u64 a0, .int .u64 a1, .int .u64 a2, .int .u64 a3]), .v (.int .i64 n)] := rfl
noncomputable def G188 : Gam := []
theorem G188_ok : Gk Tryz.prog G188 := Gn
theorem wk188 (a0 a1 a2 a3 : Int) (n : Int) (hp : ((0 ≤ a0 ∧ a0 < 18446744073709551616) ∧ (0 ≤ a1 ∧ a1 < 18446744073709551616) ∧ (0 ≤ a2 ∧ a2 < 18446744073709551616) ∧ (0 ≤ a3 ∧ a3 < 18446744073709551616)) ∧ 0 ≤ n ∧ n < 4000000000) : awp ty G188 (code Tryz.f188) (retP ty Tryz.f188.results.toList (.one (.v (.agg #[.int .u64 (w4 (V4 a0 a1 a2 a3 / 2 ^ n.toNat) 0), .int .u64 (w4 (V4 a0 a1 a2 a3 / 2 ^ n.toNat) 1), .int .u64 (w4 (V4 a0 a1 a2 a3 / 2 ^ n.toNat) 2), .int .u64 (w4 (V4 a0 a1 a2 a3 / 2 ^ n.toNat) 3)])))) (entry 0 [.v (.agg #[.int .u64 a0, .int .u64 a1, .int .u64 a2, .int .u64 a3]), .v (.int .i64 n)]) [] := by
  unfold code
  simp only [Tryz.f188, Option.getD_some]
  obtain ⟨k, rfl⟩ := Int.eq_ofNat_of_zero_le (show 0 ≤ n by omega)
  have hk : k = 64 * (k / 64) + k % 64 := by omega
  generalize hw : k / 64 = w at *
  generalize hs : k % 64 = s at *
  have hd : (k : Int).tdiv 64 = (w : Int) := by rw [Int.tdiv_eq_ediv_of_nonneg (by omega)]; omega
  have hm : (k : Int).tmod 64 = (s : Int) := by rw [Int.tmod_eq_emod_of_nonneg (by omega)]; omega
  have hmm : (s : Int) % 18446744073709551616 = (s : Int) := by omega
  have m1 : min s 64 = s := by omega
  have m2 : (64 - (s : Int)).toNat = 64 - s := by omega
  have m4 : (64 - (s : Int)) % 18446744073709551616 = 64 - (s : Int) := by omega
  have m3 : min (64 - s) 64 = 64 - s := by omega
  obtain ⟨ha0, ha1, ha2, ha3⟩ := hp.1
  have hw5 : w = 0 ∨ w = 1 ∨ w = 2 ∨ w = 3 ∨ 4 ≤ w := by omega
  rcases Nat.eq_zero_or_pos k with hk0 | hk0 <;> rcases Nat.eq_zero_or_pos s with hs0 | hs0 <;> rcases hw5 with hw0 | hw0 | hw0 | hw0 | hw0
  all_goals first
    | (exfalso; omega)
    | skip
  all_goals first
    | (have gk : decide ((k : Int) < 1) = false := by simp only [decide_eq_false_iff_not]; omega)
    | (have gk : decide ((k : Int) < 1) = true := by simp only [decide_eq_true_eq]; omega)
  all_goals first
    | (have gs : decide ((s : Int) > 0) = false := by simp only [decide_eq_false_iff_not]; omega)
    | (have gs : decide ((s : Int) > 0) = true := by simp only [decide_eq_true_eq]; omega)
  all_goals first
    | replace hd : (k : Int).tdiv 64 = 0 := by omega
    | replace hd : (k : Int).tdiv 64 = 1 := by omega
    | replace hd : (k : Int).tdiv 64 = 2 := by omega
    | replace hd : (k : Int).tdiv 64 = 3 := by omega
    | skip
  all_goals first
    | (have gw : decide ((0 : Int) < 4 - (w : Int)) = false := by simp only [decide_eq_false_iff_not]; omega)
    | (have gw : decide ((4 : Int) ≥ 5) = false := rfl)
  all_goals (obtain ⟨a0, rfl⟩ := Int.eq_ofNat_of_zero_le ha0.1)
  all_goals (obtain ⟨a1, rfl⟩ := Int.eq_ofNat_of_zero_le ha1.1)
  all_goals (obtain ⟨a2, rfl⟩ := Int.eq_ofNat_of_zero_le ha2.1)
  all_goals (obtain ⟨a3, rfl⟩ := Int.eq_ofNat_of_zero_le ha3.1)
  all_goals (have n0 : a0 < 18446744073709551616 := by omega)
  all_goals (have n1 : a1 < 18446744073709551616 := by omega)
  all_goals (have n2 : a2 < 18446744073709551616 := by omega)
  all_goals (have n3 : a3 < 18446744073709551616 := by omega)
  all_goals (have hs64 : s < 64 := by omega)
  all_goals (have or10 := shl_wordN n0 n1 hs64)
  all_goals (have or21 := shl_wordN n1 n2 hs64)
  all_goals (have or32 := shl_wordN n2 n3 hs64)
  all_goals (have ro01 := shr_wordN n0 n1 hs64)
  all_goals (have ro12 := shr_wordN n1 n2 hs64)
  all_goals (have ro23 := shr_wordN n2 n3 hs64)
  all_goals repeat' (first
 | ((with_reducible first | (refine ZA ?_; intro X hX) | (refine ZB ?_; intro X hX) | (show awp _ _ _ _ (Kp _ _) _) | (refine hX _ _ _ _ ?_; clear hX X) | (refine ZC ?_; intro X hX) | refine ZD ?_ | refine ZE ?_ | refine ZF ?_ | ((show Bg _ _ _ _ _); simp only [hall]) | (refine ZR ?_ ?_ <;> intro hb <;> (try simp only [hb]) <;> have hq := hb <;> try simp only [HQ] at hq)) <;> try simp only [Go.AM.SS, Nat.reduceAdd, Nat.reduceMul, Nat.reduceSub, ↓reduceIte, Nat.reduceEqDiff, Nat.reduceLT, Nat.reduceLeDiff, reduceCtorEq, Int.reduceBEq, Int.reduceBNe, Nat.reduceBEq, Int.reduceEq, Int.reduceToNat, Int.reduceLE, Int.reduceLT, Nat.reduceDiv, Int.reduceAdd, Int.reduceSub, Int.reduceMul, Int.reduceNeg, Int.reduceGT, Int.reduceGE, Nat.reduceMod, ty_3, ty_22, ty_23, ty_75, hd, hm, hmm, m1, m2, m3, m4, IntKind.bits, gk, gs, gw, castShl, castShr, ro01, ro12, ro23])
 | with_reducible first
 | (refine hX _ _ ?_; clear hX X)
 | (refine ZI ?_; try clear hall all)
 | (refine ZJ ?_; kernel_rfl)
 | ((show clashK _ _ _ = true); kernel_rfl)
 | (refine ZG ?_; try clear hall all)
 | (refine ZH ?_; try clear hall all)
 | (refine hK _ _ ?_; clear hK K)
 | refine ZL ?_
 | (refine v_0 _ _ ?_; try clear v_0 V_0)
 | (refine v_1 _ _ ?_; try clear v_1 V_1)
 | (refine v_2 _ _ ?_; try clear v_2 V_2)
    | (with_reducible refine awp_unroll (Nat.succ (Nat.succ (Nat.succ (Nat.succ (Nat.succ Nat.zero))))) ?_)
 | ((first | refine qr 11 [4] ?_ | refine Zh (a := .seq (.region 5 _ _) _) [4,5] ?_ | refine qr 4 [2,4,5,6,7] ?_ | refine qr 3 [1,2,4,5] ?_ | refine Zh (a := .seq (.region 1 _ _) _) [1,2,4] ?_ | refine qr 0 [1,2,4] ?_); intro V_0 v_0)
 | ((first | refine qb 1 [2,4,5,6,7,8] ?_ | refine Zh (a := .seq (.region 6 _ _) _) [2,4,5,6,7,8] ?_ | refine qr 5 [2,4,5,6,7,8] ?_ | refine qr 2 [4] ?_ | refine qr 1 [1,2,4,10] ?_); intro V_1 v_1)
 | ((first | refine qr 9 [2,4,5,6,7,8,44] ?_ | refine qr 8 [2,4,5,6,7,8] ?_ | refine qr 6 [2,4,5,6,7,8,22] ?_); intro V_2 v_2)
 | (refine ZM ?_; intro K hK)
 | (refine ZN ?_; intro all hall K hK)
 | (refine Da (id := 10) ?_ ?_; kernel_rfl; intro all hall K hK)
 | (refine ZO ?_ ?_; kernel_rfl; intro all hall K hK)
 | (refine ZQ ?_ ?_)
 | (refine ZK ?_; kernel_rfl)
 | (refine Zg ?_; simp only [↓reduceIte, Nat.reduceEqDiff])
 | refine ZS ?_ | refine ZT ?_ | refine ZU ?_ | refine ZV ?_ | refine ZW ?_ | refine ZX ?_ | refine ZY ?_ | refine ZZ ?_ | refine Za ?_ | refine Zb ?_ | refine Zc ?_ | refine Zd ?_ | refine Ze ?_ | refine Zf ?_)
  all_goals try clear v_2 V_2
  all_goals try clear v_1 V_1
  all_goals try clear v_0 V_0
  all_goals (try simp only [inR])
  all_goals first
    | omega
    | skip
  all_goals first
    | exact agg4 (shr4w  hk n0 n1 n2 n3 hs64 (.inl ⟨hw0, rfl, rfl, rfl, rfl⟩))
    | exact agg4 (shr4w  hk n0 n1 n2 n3 hs64 (.inl ⟨hw0, (by rw [lo0 hs0, Nat.add_zero]), (by rw [lo0 hs0, Nat.add_zero]), (by rw [lo0 hs0, Nat.add_zero]), rfl⟩))
    | exact agg4 (shr4w (o3 := 0) hk n0 n1 n2 n3 hs64 (.inr (.inl ⟨hw0, rfl, rfl, rfl, rfl⟩)))
    | exact agg4 (shr4w (o3 := 0) hk n0 n1 n2 n3 hs64 (.inr (.inl ⟨hw0, (by rw [lo0 hs0, Nat.add_zero]), (by rw [lo0 hs0, Nat.add_zero]), rfl, rfl⟩)))
    | exact agg4 (shr4w (o2 := 0) (o3 := 0) hk n0 n1 n2 n3 hs64 (.inr (.inr (.inl ⟨hw0, rfl, rfl, rfl, rfl⟩))))
    | exact agg4 (shr4w (o2 := 0) (o3 := 0) hk n0 n1 n2 n3 hs64 (.inr (.inr (.inl ⟨hw0, (by rw [lo0 hs0, Nat.add_zero]), rfl, rfl, rfl⟩))))
    | exact agg4 (shr4w (o1 := 0) (o2 := 0) (o3 := 0) hk n0 n1 n2 n3 hs64 (.inr (.inr (.inr (.inl ⟨hw0, rfl, rfl, rfl, rfl⟩)))))
    | exact agg4 (shr4w (o1 := 0) (o2 := 0) (o3 := 0) hk n0 n1 n2 n3 hs64 (.inr (.inr (.inr (.inl ⟨hw0, rfl, rfl, rfl, rfl⟩)))))
    | exact agg4 (shr4w (o0 := 0) (o1 := 0) (o2 := 0) (o3 := 0) hk n0 n1 n2 n3 hs64 (.inr (.inr (.inr (.inr ⟨hw0, rfl, rfl, rfl, rfl⟩)))))
    | exact agg4 (shr4w (o0 := 0) (o1 := 0) (o2 := 0) (o3 := 0) hk n0 n1 n2 n3 hs64 (.inr (.inr (.inr (.inr ⟨hw0, rfl, rfl, rfl, rfl⟩)))))
    | (rw [hk0, Nat.pow_zero, Nat.div_one]
       obtain ⟨f0, f1, f2, f3⟩ := w4_V4 ha0 ha1 ha2 ha3
       rw [f0, f1, f2, f3])
theorem sound_188 : Sound Tryz.prog 188 .body (norm s188) := by
  refine sb Tryz.func188 rfl (by kernel_rfl) G188_ok (by kernel_rfl) fun ds p r hs hp => ?_
  unfold s188 at hs
  split at hs
  · cases hs; exact ⟨Nat.le_of_ble_eq_true (by kernel_rfl), wk188 _ _ _ _ _ hp⟩
  · cases hs
noncomputable def s65 : Cs := fun ds => match ds with
  | [.v (.agg ⟨[.int .u64 a0, .int .u64 a1, .int .u64 a2, .int .u64 a3]⟩), .v (.int .i64 n)] => some (((0 ≤ a0 ∧ a0 < 18446744073709551616) ∧ (0 ≤ a1 ∧ a1 < 18446744073709551616) ∧ (0 ≤ a2 ∧ a2 < 18446744073709551616) ∧ (0 ≤ a3 ∧ a3 < 18446744073709551616)) ∧ 0 ≤ n ∧ n < 4000000000, .one (.v (.agg #[.int .u64 (w4 (V4 a0 a1 a2 a3 * 2 ^ n.toNat % 2 ^ 256) 0), .int .u64 (w4 (V4 a0 a1 a2 a3 * 2 ^ n.toNat % 2 ^ 256) 1), .int .u64 (w4 (V4 a0 a1 a2 a3 * 2 ^ n.toNat % 2 ^ 256) 2), .int .u64 (w4 (V4 a0 a1 a2 a3 * 2 ^ n.toNat % 2 ^ 256) 3)])))
  | _ => none
theorem s65_eq (a0 a1 a2 a3 : Int) (n : Int) : norm s65 [.v (.agg #[.int .u64 a0, .int .u64 a1, .int .u64 a2, .int .u64 a3]), .v (.int .i64 n)] = s65 [.v (.agg #[.int .u64 a0, .int .u64 a1, .int .u64 a2, .int .u64 a3]), .v (.int .i64 n)] := rfl
noncomputable def G65 : Gam := []
theorem G65_ok : Gk Tryz.prog G65 := Gn
theorem wk65 (a0 a1 a2 a3 : Int) (n : Int) (hp : ((0 ≤ a0 ∧ a0 < 18446744073709551616) ∧ (0 ≤ a1 ∧ a1 < 18446744073709551616) ∧ (0 ≤ a2 ∧ a2 < 18446744073709551616) ∧ (0 ≤ a3 ∧ a3 < 18446744073709551616)) ∧ 0 ≤ n ∧ n < 4000000000) : awp ty G65 (code Tryz.f65) (retP ty Tryz.f65.results.toList (.one (.v (.agg #[.int .u64 (w4 (V4 a0 a1 a2 a3 * 2 ^ n.toNat % 2 ^ 256) 0), .int .u64 (w4 (V4 a0 a1 a2 a3 * 2 ^ n.toNat % 2 ^ 256) 1), .int .u64 (w4 (V4 a0 a1 a2 a3 * 2 ^ n.toNat % 2 ^ 256) 2), .int .u64 (w4 (V4 a0 a1 a2 a3 * 2 ^ n.toNat % 2 ^ 256) 3)])))) (entry 0 [.v (.agg #[.int .u64 a0, .int .u64 a1, .int .u64 a2, .int .u64 a3]), .v (.int .i64 n)]) [] := by
  unfold code
  simp only [Tryz.f65, Option.getD_some]
  obtain ⟨k, rfl⟩ := Int.eq_ofNat_of_zero_le (show 0 ≤ n by omega)
  have hk : k = 64 * (k / 64) + k % 64 := by omega
  generalize hw : k / 64 = w at *
  generalize hs : k % 64 = s at *
  have hd : (k : Int).tdiv 64 = (w : Int) := by rw [Int.tdiv_eq_ediv_of_nonneg (by omega)]; omega
  have hm : (k : Int).tmod 64 = (s : Int) := by rw [Int.tmod_eq_emod_of_nonneg (by omega)]; omega
  have hmm : (s : Int) % 18446744073709551616 = (s : Int) := by omega
  have m1 : min s 64 = s := by omega
  have m2 : (64 - (s : Int)).toNat = 64 - s := by omega
  have m4 : (64 - (s : Int)) % 18446744073709551616 = 64 - (s : Int) := by omega
  have m3 : min (64 - s) 64 = 64 - s := by omega
  obtain ⟨ha0, ha1, ha2, ha3⟩ := hp.1
  have hw5 : w = 0 ∨ w = 1 ∨ w = 2 ∨ w = 3 ∨ 4 ≤ w := by omega
  rcases Nat.eq_zero_or_pos k with hk0 | hk0 <;> rcases Nat.eq_zero_or_pos s with hs0 | hs0 <;> rcases hw5 with hw0 | hw0 | hw0 | hw0 | hw0
  all_goals first
    | (exfalso; omega)
    | skip
  all_goals first
    | (have gk : decide ((k : Int) < 1) = false := by simp only [decide_eq_false_iff_not]; omega)
    | (have gk : decide ((k : Int) < 1) = true := by simp only [decide_eq_true_eq]; omega)
  all_goals first
    | (have gs : decide ((s : Int) > 0) = false := by simp only [decide_eq_false_iff_not]; omega)
    | (have gs : decide ((s : Int) > 0) = true := by simp only [decide_eq_true_eq]; omega)
  all_goals first
    | replace hd : (k : Int).tdiv 64 = 0 := by omega
    | replace hd : (k : Int).tdiv 64 = 1 := by omega
    | replace hd : (k : Int).tdiv 64 = 2 := by omega
    | replace hd : (k : Int).tdiv 64 = 3 := by omega
    | skip
  all_goals first
    | (have gw : decide ((3 : Int) ≥ (w : Int)) = false := by simp only [decide_eq_false_iff_not]; omega)
    | (have gw : decide ((4 : Int) ≥ 5) = false := rfl)
  all_goals (obtain ⟨a0, rfl⟩ := Int.eq_ofNat_of_zero_le ha0.1)
  all_goals (obtain ⟨a1, rfl⟩ := Int.eq_ofNat_of_zero_le ha1.1)
  all_goals (obtain ⟨a2, rfl⟩ := Int.eq_ofNat_of_zero_le ha2.1)
  all_goals (obtain ⟨a3, rfl⟩ := Int.eq_ofNat_of_zero_le ha3.1)
  all_goals (have n0 : a0 < 18446744073709551616 := by omega)
  all_goals (have n1 : a1 < 18446744073709551616 := by omega)
  all_goals (have n2 : a2 < 18446744073709551616 := by omega)
  all_goals (have n3 : a3 < 18446744073709551616 := by omega)
  all_goals (have hs64 : s < 64 := by omega)
  all_goals (have or10 := shl_wordN n0 n1 hs64)
  all_goals (have or21 := shl_wordN n1 n2 hs64)
  all_goals (have or32 := shl_wordN n2 n3 hs64)
  all_goals (have ro01 := shr_wordN n0 n1 hs64)
  all_goals (have ro12 := shr_wordN n1 n2 hs64)
  all_goals (have ro23 := shr_wordN n2 n3 hs64)
  all_goals repeat' (first
 | ((with_reducible first | (refine ZA ?_; intro X hX) | (refine ZB ?_; intro X hX) | (show awp _ _ _ _ (Kp _ _) _) | (refine hX _ _ _ _ ?_; clear hX X) | (refine ZC ?_; intro X hX) | refine ZD ?_ | refine ZE ?_ | refine ZF ?_ | ((show Bg _ _ _ _ _); simp only [hall]) | (refine ZR ?_ ?_ <;> intro hb <;> (try simp only [hb]) <;> have hq := hb <;> try simp only [HQ] at hq)) <;> try simp only [Go.AM.SS, Nat.reduceAdd, Nat.reduceMul, Nat.reduceSub, ↓reduceIte, Nat.reduceEqDiff, Nat.reduceLT, Nat.reduceLeDiff, reduceCtorEq, Int.reduceBEq, Int.reduceBNe, Nat.reduceBEq, Int.reduceEq, Int.reduceToNat, Int.reduceLE, Int.reduceLT, Nat.reduceDiv, Int.reduceAdd, Int.reduceSub, Int.reduceMul, Int.reduceNeg, Int.reduceGT, Int.reduceGE, Nat.reduceMod, ty_3, ty_22, ty_23, ty_75, hd, hm, hmm, m1, m2, m3, m4, IntKind.bits, gk, gs, gw, castShl, castShr, or10, or21, or32])
 | with_reducible first
 | (refine hX _ _ ?_; clear hX X)
 | (refine ZI ?_; try clear hall all)
 | (refine ZJ ?_; kernel_rfl)
 | ((show clashK _ _ _ = true); kernel_rfl)
 | (refine ZG ?_; try clear hall all)
 | (refine ZH ?_; try clear hall all)
 | (refine hK _ _ ?_; clear hK K)
 | refine ZL ?_
 | (refine v_0 _ _ ?_; try clear v_0 V_0)
 | (refine v_1 _ _ ?_; try clear v_1 V_1)
 | (refine v_2 _ _ ?_; try clear v_2 V_2)
    | (with_reducible refine awp_unroll (Nat.succ (Nat.succ (Nat.succ (Nat.succ (Nat.succ Nat.zero))))) ?_)
 | ((first | refine qr 11 [4] ?_ | refine Zh (a := .seq (.region 5 _ _) _) [4,5] ?_ | refine qr 4 [2,4,5,6,7] ?_ | refine qr 3 [1,2,4,5] ?_ | refine Zh (a := .seq (.region 1 _ _) _) [1,2,4] ?_ | refine qr 0 [1,2,4] ?_); intro V_0 v_0)
 | ((first | refine qb 1 [2,4,5,6,7,8] ?_ | refine Zh (a := .seq (.region 6 _ _) _) [2,4,5,6,7,8] ?_ | refine qr 5 [2,4,5,6,7,8] ?_ | refine qr 2 [4] ?_ | refine qr 1 [1,2,4,10] ?_); intro V_1 v_1)
 | ((first | refine qr 9 [2,4,5,6,7,8,40] ?_ | refine qr 8 [2,4,5,6,7,8] ?_ | refine qr 6 [2,4,5,6,7,8,22] ?_); intro V_2 v_2)
 | (refine ZM ?_; intro K hK)
 | (refine ZN ?_; intro all hall K hK)
 | (refine Da (id := 10) ?_ ?_; kernel_rfl; intro all hall K hK)
 | (refine ZO ?_ ?_; kernel_rfl; intro all hall K hK)
 | (refine ZQ ?_ ?_)
 | (refine ZK ?_; kernel_rfl)
 | (refine Zg ?_; simp only [↓reduceIte, Nat.reduceEqDiff])
 | refine ZS ?_ | refine ZT ?_ | refine ZU ?_ | refine ZV ?_ | refine ZW ?_ | refine ZX ?_ | refine ZY ?_ | refine ZZ ?_ | refine Za ?_ | refine Zb ?_ | refine Zc ?_ | refine Zd ?_ | refine Ze ?_ | refine Zf ?_)
  all_goals try clear v_2 V_2
  all_goals try clear v_1 V_1
  all_goals try clear v_0 V_0
  all_goals (try simp only [inR])
  all_goals first
    | omega
    | skip
  all_goals first
    | exact agg4 (shl4w  hk n0 n1 n2 n3 hs64 (.inl ⟨hw0, rfl, rfl, rfl, rfl⟩))
    | exact agg4 (shl4w  hk n0 n1 n2 n3 hs64 (.inl ⟨hw0, rfl, (by rw [hi0 n0 hs0, Nat.add_zero]), (by rw [hi0 n1 hs0, Nat.add_zero]), (by rw [hi0 n2 hs0, Nat.add_zero])⟩))
    | exact agg4 (shl4w (o0 := 0) hk n0 n1 n2 n3 hs64 (.inr (.inl ⟨hw0, rfl, rfl, rfl, rfl⟩)))
    | exact agg4 (shl4w (o0 := 0) hk n0 n1 n2 n3 hs64 (.inr (.inl ⟨hw0, rfl, rfl, (by rw [hi0 n0 hs0, Nat.add_zero]), (by rw [hi0 n1 hs0, Nat.add_zero])⟩)))
    | exact agg4 (shl4w (o0 := 0) (o1 := 0) hk n0 n1 n2 n3 hs64 (.inr (.inr (.inl ⟨hw0, rfl, rfl, rfl, rfl⟩))))
    | exact agg4 (shl4w (o0 := 0) (o1 := 0) hk n0 n1 n2 n3 hs64 (.inr (.inr (.inl ⟨hw0, rfl, rfl, rfl, (by rw [hi0 n0 hs0, Nat.add_zero])⟩))))
    | exact agg4 (shl4w (o0 := 0) (o1 := 0) (o2 := 0) hk n0 n1 n2 n3 hs64 (.inr (.inr (.inr (.inl ⟨hw0, rfl, rfl, rfl, rfl⟩)))))
    | exact agg4 (shl4w (o0 := 0) (o1 := 0) (o2 := 0) hk n0 n1 n2 n3 hs64 (.inr (.inr (.inr (.inl ⟨hw0, rfl, rfl, rfl, rfl⟩)))))
    | exact agg4 (shl4w (o0 := 0) (o1 := 0) (o2 := 0) (o3 := 0) hk n0 n1 n2 n3 hs64 (.inr (.inr (.inr (.inr ⟨hw0, rfl, rfl, rfl, rfl⟩)))))
    | exact agg4 (shl4w (o0 := 0) (o1 := 0) (o2 := 0) (o3 := 0) hk n0 n1 n2 n3 hs64 (.inr (.inr (.inr (.inr ⟨hw0, rfl, rfl, rfl, rfl⟩)))))
    | (rw [hk0, Nat.pow_zero, Nat.mul_one, Nat.mod_eq_of_lt (V4_lt ha0 ha1 ha2 ha3)]
       obtain ⟨f0, f1, f2, f3⟩ := w4_V4 ha0 ha1 ha2 ha3
       rw [f0, f1, f2, f3])
theorem sound_65 : Sound Tryz.prog 65 .body (norm s65) := by
  refine sb Tryz.func65 rfl (by kernel_rfl) G65_ok (by kernel_rfl) fun ds p r hs hp => ?_
  unfold s65 at hs
  split at hs
  · cases hs; exact ⟨Nat.le_of_ble_eq_true (by kernel_rfl), wk65 _ _ _ _ _ hp⟩
  · cases hs
noncomputable def s225 : Cs := fun ds => match ds with
  | [.v (.agg ⟨[.int .u64 a0, .int .u64 a1, .int .u64 a2, .int .u64 a3]⟩), .v (.agg ⟨[.int .u64 b0, .int .u64 b1, .int .u64 b2, .int .u64 b3]⟩)] => some (((0 ≤ a0 ∧ a0 < 18446744073709551616) ∧ (0 ≤ a1 ∧ a1 < 18446744073709551616) ∧ (0 ≤ a2 ∧ a2 < 18446744073709551616) ∧ (0 ≤ a3 ∧ a3 < 18446744073709551616)) ∧ ((0 ≤ b0 ∧ b0 < 18446744073709551616) ∧ (0 ≤ b1 ∧ b1 < 18446744073709551616) ∧ (0 ≤ b2 ∧ b2 < 18446744073709551616) ∧ (0 ≤ b3 ∧ b3 < 18446744073709551616)) ∧ V4 b0 b1 b2 b3 ≤ V4 a0 a1 a2 a3, .many [.v (.agg #[.int .u64 (w4 (V4 a0 a1 a2 a3 - V4 b0 b1 b2 b3) 0), .int .u64 (w4 (V4 a0 a1 a2 a3 - V4 b0 b1 b2 b3) 1), .int .u64 (w4 (V4 a0 a1 a2 a3 - V4 b0 b1 b2 b3) 2), .int .u64 (w4 (V4 a0 a1 a2 a3 - V4 b0 b1 b2 b3) 3)]), .v (.int .u64 0)])
  | _ => none
theorem s225_eq (a0 a1 a2 a3 : Int) (b0 b1 b2 b3 : Int) : norm s225 [.v (.agg #[.int .u64 a0, .int .u64 a1, .int .u64 a2, .int .u64 a3]), .v (.agg #[.int .u64 b0, .int .u64 b1, .int .u64 b2, .int .u64 b3])] = s225 [.v (.agg #[.int .u64 a0, .int .u64 a1, .int .u64 a2, .int .u64 a3]), .v (.agg #[.int .u64 b0, .int .u64 b1, .int .u64 b2, .int .u64 b3])] := rfl
noncomputable def G225 : Gam := [(153, .ext, sSub64)]
theorem G225_ok : Gk Tryz.prog G225 := Gc ext_153 Gn
theorem k225_153 : lk G225 153 = some (.ext, sSub64) := rfl
theorem wk225 (a0 a1 a2 a3 : Int) (b0 b1 b2 b3 : Int) (hp : ((0 ≤ a0 ∧ a0 < 18446744073709551616) ∧ (0 ≤ a1 ∧ a1 < 18446744073709551616) ∧ (0 ≤ a2 ∧ a2 < 18446744073709551616) ∧ (0 ≤ a3 ∧ a3 < 18446744073709551616)) ∧ ((0 ≤ b0 ∧ b0 < 18446744073709551616) ∧ (0 ≤ b1 ∧ b1 < 18446744073709551616) ∧ (0 ≤ b2 ∧ b2 < 18446744073709551616) ∧ (0 ≤ b3 ∧ b3 < 18446744073709551616)) ∧ V4 b0 b1 b2 b3 ≤ V4 a0 a1 a2 a3) : awp ty G225 (code Tryz.f225) (retP ty Tryz.f225.results.toList (.many [.v (.agg #[.int .u64 (w4 (V4 a0 a1 a2 a3 - V4 b0 b1 b2 b3) 0), .int .u64 (w4 (V4 a0 a1 a2 a3 - V4 b0 b1 b2 b3) 1), .int .u64 (w4 (V4 a0 a1 a2 a3 - V4 b0 b1 b2 b3) 2), .int .u64 (w4 (V4 a0 a1 a2 a3 - V4 b0 b1 b2 b3) 3)]), .v (.int .u64 0)])) (entry 0 [.v (.agg #[.int .u64 a0, .int .u64 a1, .int .u64 a2, .int .u64 a3]), .v (.agg #[.int .u64 b0, .int .u64 b1, .int .u64 b2, .int .u64 b3])]) [] := by
  unfold code
  simp only [Tryz.f225, Option.getD_some]
  all_goals repeat' (first
 | ((with_reducible first | (refine ZA ?_; intro X hX) | (refine ZB ?_; intro X hX) | (show awp _ _ _ _ (Kp _ _) _) | (refine hX _ _ _ _ ?_; clear hX X) | (refine ZC ?_; intro X hX) | refine ZD ?_ | refine ZE ?_ | refine ZF ?_ | ((show Bg _ _ _ _ _); simp only [hall]) | (refine ZR ?_ ?_ <;> intro hb <;> (try simp only [hb]) <;> have hq := hb <;> try simp only [HQ] at hq)) <;> try simp only [Go.AM.SS, Nat.reduceAdd, Nat.reduceMul, Nat.reduceSub, ↓reduceIte, Nat.reduceEqDiff, Nat.reduceLT, Nat.reduceLeDiff, reduceCtorEq, Int.reduceBEq, Int.reduceBNe, Nat.reduceBEq, Int.reduceEq, Int.reduceToNat, Int.reduceLE, Int.reduceLT, Nat.reduceDiv, Int.reduceAdd, Int.reduceSub, Int.reduceMul, Int.reduceNeg, Int.reduceGT, Int.reduceGE, Nat.reduceMod, k225_153, sSub64_eq, ty_3, ty_22, ty_23, Int.sub_zero, Int.add_zero])
 | with_reducible first
 | (refine hX _ _ ?_; clear hX X)
 | (refine ZI ?_; try clear hall all)
 | (refine ZJ ?_; kernel_rfl)
 | ((show clashK _ _ _ = true); kernel_rfl)
 | (refine ZG ?_; try clear hall all)
 | (refine ZH ?_; try clear hall all)
 | (refine hK _ _ ?_; clear hK K)
 | refine ZL ?_
 | (refine v_0 _ _ ?_; try clear v_0 V_0)
 | (refine v_1 _ _ ?_; try clear v_1 V_1)
 | (refine v_2 _ _ ?_; try clear v_2 V_2)
    | (with_reducible refine awp_unroll (Nat.succ (Nat.succ (Nat.succ (Nat.succ (Nat.succ Nat.zero))))) ?_)
 | ((first | refine qr 7 [4,5] ?_ | refine Zh (a := .seq (.region 2 _ _) _) [2,4,6] ?_ | refine qr 1 [2,3,4,6] ?_ | refine qr 0 [2,3,4] ?_); intro V_0 v_0)
 | ((first | refine qb 1 [2,3,4,6,9,10] ?_ | refine Zh (a := .cond (.tmp 11) _ _) [2,3,4,6,9,10] ?_ | refine qr 3 [2,3,4,6,9,10,11] ?_ | refine qr 2 [2,3,4,6,9,10] ?_); intro V_1 v_1)
 | ((first | refine qr 4 [2,3,4,6,7,9,10] ?_); intro V_2 v_2)
 | (refine ZM ?_; intro K hK)
 | (refine ZN ?_; intro all hall K hK)
 | (refine Da (id := 5) ?_ ?_; kernel_rfl; intro all hall K hK)
 | (refine ZO ?_ ?_; kernel_rfl; intro all hall K hK)
 | (refine ZQ ?_ ?_)
 | (refine ZK ?_; kernel_rfl)
 | (refine Zg ?_; simp only [↓reduceIte, Nat.reduceEqDiff])
 | refine ZS ?_ | refine ZT ?_ | refine ZU ?_ | refine ZV ?_ | refine ZW ?_ | refine ZX ?_ | refine ZY ?_ | refine ZZ ?_ | refine Za ?_ | refine Zb ?_ | refine Zc ?_ | refine Zd ?_ | refine Ze ?_ | refine Zf ?_)
  all_goals try clear v_2 V_2
  all_goals try clear v_1 V_1
  all_goals try clear v_0 V_0
  all_goals (try simp only [inR])
  all_goals first
    | omega
    | exact ⟨hp.1.1.1, hp.1.1.2, hp.2.1.1.1, hp.2.1.1.2⟩
    | skip
  obtain ⟨⟨x0, x1, x2, x3⟩, ⟨y0, y1, y2, y3⟩, hle⟩ := hp
  obtain ⟨f0, f1, f2, f3, f4⟩ := sub4 x0 x1 x2 x3 y0 y1 y2 y3 ite01 ite01 ite01 ite01 hle
  rw [f0, f1, f2, f3, f4]
  all_goals (first | rfl | exact ⟨rfl, rfl⟩)
theorem sound_225 : Sound Tryz.prog 225 .body (norm s225) := by
  refine sb Tryz.func225 rfl (by kernel_rfl) G225_ok (by kernel_rfl) fun ds p r hs hp => ?_
  unfold s225 at hs
  split at hs
  · cases hs; exact ⟨Nat.le_of_ble_eq_true (by kernel_rfl), wk225 _ _ _ _ _ _ _ _ hp⟩
  · cases hs
noncomputable def s226 : Cs := fun ds => match ds with
  | [.v (.int .u64 x)] => some (True, .one (.v (.agg #[.int .u64 x, .int .u64 0, .int .u64 0, .int .u64 0])))
  | _ => none
theorem s226_eq (x : Int) : norm s226 [.v (.int .u64 x)] = s226 [.v (.int .u64 x)] := rfl
noncomputable def G226 : Gam := []
theorem G226_ok : Gk Tryz.prog G226 := Gn
theorem wk226 (x : Int) (hp : True) : awp ty G226 (code Tryz.f226) (retP ty Tryz.f226.results.toList (.one (.v (.agg #[.int .u64 x, .int .u64 0, .int .u64 0, .int .u64 0])))) (entry 0 [.v (.int .u64 x)]) [] := by
  unfold code
  simp only [Tryz.f226, Option.getD_some]
  all_goals repeat' (first
 | ((with_reducible first | (refine ZA ?_; intro X hX) | (show awp _ _ _ _ (Kp _ _) _) | refine ZD ?_ | refine ZE ?_ | refine ZF ?_ | ((show Bg _ _ _ _ _); simp only [hall]) | (refine ZR ?_ ?_ <;> intro hb <;> (try simp only [hb]) <;> have hq := hb <;> try simp only [HQ] at hq)) <;> try simp only [Go.AM.SS, Nat.reduceAdd, Nat.reduceMul, Nat.reduceSub, ↓reduceIte, Nat.reduceEqDiff, Nat.reduceLT, Nat.reduceLeDiff, reduceCtorEq, Int.reduceBEq, Int.reduceBNe, Nat.reduceBEq, Int.reduceEq, Int.reduceToNat, Int.reduceLE, Int.reduceLT, Nat.reduceDiv, Int.reduceAdd, Int.reduceSub, Int.reduceMul, Int.reduceNeg, Int.reduceGT, Int.reduceGE, Nat.reduceMod, ty_22, ty_23])
 | with_reducible first
 | (refine hX _ _ ?_; clear hX X)
 | (refine ZG ?_; try clear hall all)
 | (refine hK _ _ ?_; clear hK K)
 | refine ZL ?_
 | (refine v_0 _ _ ?_; try clear v_0 V_0)
 | ((first | refine qr 3 [2] ?_ | refine qr 2 [2,3] ?_ | refine qr 1 [0,2,3] ?_ | refine qr 0 [0,2] ?_); intro V_0 v_0)
 | (refine ZM ?_; intro K hK)
 | (refine ZN ?_; intro all hall K hK)
 | (refine ZQ ?_ ?_)
 | refine ZT ?_ | refine ZU ?_ | refine ZW ?_)
  all_goals try clear v_0 V_0
theorem sound_226 : Sound Tryz.prog 226 .body (norm s226) := by
  refine sb Tryz.func226 rfl (by kernel_rfl) G226_ok (by kernel_rfl) fun ds p r hs hp => ?_
  unfold s226 at hs
  split at hs
  · cases hs; exact ⟨Nat.le_of_ble_eq_true (by kernel_rfl), wk226 _ hp⟩
  · cases hs
noncomputable def s189 : Cs := fun ds => match ds with
  | [.v (.int .i64 n)] => some (0 ≤ n ∧ n < 256, .one (.v (.agg #[.int .u64 (w4 (2 ^ n.toNat - 1) 0), .int .u64 (w4 (2 ^ n.toNat - 1) 1), .int .u64 (w4 (2 ^ n.toNat - 1) 2), .int .u64 (w4 (2 ^ n.toNat - 1) 3)])))
  | _ => none
theorem s189_eq (n : Int) : norm s189 [.v (.int .i64 n)] = s189 [.v (.int .i64 n)] := rfl
noncomputable def G189 : Gam := [(65, .body, norm s65), (225, .body, norm s225), (226, .body, norm s226)]
theorem G189_ok : Gk Tryz.prog G189 := Gc sound_65 (Gc sound_225 (Gc sound_226 Gn))
theorem k189_65 : lk G189 65 = some (.body, norm s65) := rfl
theorem k189_225 : lk G189 225 = some (.body, norm s225) := rfl
theorem k189_226 : lk G189 226 = some (.body, norm s226) := rfl
theorem wk189 (n : Int) (hp : 0 ≤ n ∧ n < 256) : awp ty G189 (code Tryz.f189) (retP ty Tryz.f189.results.toList (.one (.v (.agg #[.int .u64 (w4 (2 ^ n.toNat - 1) 0), .int .u64 (w4 (2 ^ n.toNat - 1) 1), .int .u64 (w4 (2 ^ n.toNat - 1) 2), .int .u64 (w4 (2 ^ n.toNat - 1) 3)])))) (entry 0 [.v (.int .i64 n)]) [] := by
  unfold code
  simp only [Tryz.f189, Option.getD_some]
  obtain ⟨k, rfl⟩ := Int.eq_ofNat_of_zero_le hp.1
  have v1 : V4 1 0 0 0 = 1 := rfl
  have hlt : 2 ^ k < 2 ^ 256 := Nat.pow_lt_pow_right (by omega) (by omega)
  have hM : 2 ^ k % 2 ^ 256 = 2 ^ k := Nat.mod_eq_of_lt hlt
  have hV : V4 (w4 (2 ^ k) 0) (w4 (2 ^ k) 1) (w4 (2 ^ k) 2) (w4 (2 ^ k) 3) = 2 ^ k := V4_w4 hlt
  have g256 : decide ((k : Int) ≥ 256) = false := by simp only [decide_eq_false_iff_not]; omega
  have l0 := Wl (2 ^ k) 0
  have l1 := Wl (2 ^ k) 1
  have l2 := Wl (2 ^ k) 2
  have l3 := Wl (2 ^ k) 3
  have hpos := Nat.two_pow_pos k
  all_goals repeat' (first
 | ((with_reducible first | (refine ZA ?_; intro X hX) | (show awp _ _ _ _ (Kp _ _) _) | refine ZD ?_ | refine ZE ?_ | refine ZF ?_ | ((show Bg _ _ _ _ _); simp only [hall]) | (refine ZR ?_ ?_ <;> intro hb <;> (try simp only [hb]) <;> have hq := hb <;> try simp only [HQ] at hq)) <;> try simp only [Go.AM.SS, Nat.reduceAdd, Nat.reduceMul, Nat.reduceSub, ↓reduceIte, Nat.reduceEqDiff, Nat.reduceLT, Nat.reduceLeDiff, reduceCtorEq, Int.reduceBEq, Int.reduceBNe, Nat.reduceBEq, Int.reduceEq, Int.reduceToNat, Int.reduceLE, Int.reduceLT, Nat.reduceDiv, Int.reduceAdd, Int.reduceSub, Int.reduceMul, Int.reduceNeg, Int.reduceGT, Int.reduceGE, Nat.reduceMod, k189_65, s65.eq_1, s65_eq, k189_225, s225.eq_1, s225_eq, k189_226, s226.eq_1, s226_eq, ty_3, ty_22, ty_23, ty_24, v1, hV, hM, g256, Nat.one_mul])
 | with_reducible first
 | (refine hX _ _ ?_; clear hX X)
 | (refine ZG ?_; try clear hall all)
 | (refine hK _ _ ?_; clear hK K)
 | refine ZL ?_
 | (refine v_0 _ _ ?_; try clear v_0 V_0)
 | (refine v_1 _ _ ?_; try clear v_1 V_1)
 | ((first | refine qr 4 [2] ?_ | refine Zh (a := .seq (.region 2 _ _) _) [2,3] ?_ | refine qr 1 [0,2,3] ?_ | refine qr 0 [0,2] ?_); intro V_0 v_0)
 | ((first | refine qr 2 [2,3,14] ?_); intro V_1 v_1)
 | (refine ZM ?_; intro K hK)
 | (refine ZN ?_; intro all hall K hK)
 | (refine ZQ ?_ ?_)
 | refine ZT ?_ | refine ZU ?_ | refine ZW ?_)
  all_goals try clear v_1 V_1
  all_goals try clear v_0 V_0
  all_goals (try simp only [inR])
  all_goals first
    | omega
    | exact ⟨⟨l0, l1, l2, l3⟩, ⟨by omega, by omega, by omega, by omega⟩, hpos⟩
    | skip
theorem sound_189 : Sound Tryz.prog 189 .body (norm s189) := by
  refine sb Tryz.func189 rfl (by kernel_rfl) G189_ok (by kernel_rfl) fun ds p r hs hp => ?_
  unfold s189 at hs
  split at hs
  · cases hs; exact ⟨Nat.le_of_ble_eq_true (by kernel_rfl), wk189 _ hp⟩
  · cases hs
noncomputable def s124 : Cs := fun ds => match ds with
  | [.v (.agg ⟨[.int .u64 b0, .int .u64 b1, .int .u64 b2, .int .u64 b3]⟩), .v (.int .i64 p), .v (.int .i64 n)] => some (((0 ≤ b0 ∧ b0 < 18446744073709551616) ∧ (0 ≤ b1 ∧ b1 < 18446744073709551616) ∧ (0 ≤ b2 ∧ b2 < 18446744073709551616) ∧ (0 ≤ b3 ∧ b3 < 18446744073709551616)) ∧ (0 ≤ p ∧ p < 4000000000) ∧ 0 ≤ n ∧ n < 256, .one (.v (.agg #[.int .u64 (w4 ((V4 b0 b1 b2 b3) / 2 ^ p.toNat % 2 ^ n.toNat) 0), .int .u64 (w4 ((V4 b0 b1 b2 b3) / 2 ^ p.toNat % 2 ^ n.toNat) 1), .int .u64 (w4 ((V4 b0 b1 b2 b3) / 2 ^ p.toNat % 2 ^ n.toNat) 2), .int .u64 (w4 ((V4 b0 b1 b2 b3) / 2 ^ p.toNat % 2 ^ n.toNat) 3)])))
  | _ => none
theorem s124_eq (b0 b1 b2 b3 : Int) (p : Int) (n : Int) : norm s124 [.v (.agg #[.int .u64 b0, .int .u64 b1, .int .u64 b2, .int .u64 b3]), .v (.int .i64 p), .v (.int .i64 n)] = s124 [.v (.agg #[.int .u64 b0, .int .u64 b1, .int .u64 b2, .int .u64 b3]), .v (.int .i64 p), .v (.int .i64 n)] := rfl
noncomputable def G124 : Gam := [(187, .body, norm s187), (188, .body, norm s188), (189, .body, norm s189)]
theorem G124_ok : Gk Tryz.prog G124 := Gc sound_187 (Gc sound_188 (Gc sound_189 Gn))
theorem k124_187 : lk G124 187 = some (.body, norm s187) := rfl
theorem k124_188 : lk G124 188 = some (.body, norm s188) := rfl
theorem k124_189 : lk G124 189 = some (.body, norm s189) := rfl
theorem wk124 (b0 b1 b2 b3 : Int) (p : Int) (n : Int) (hp : ((0 ≤ b0 ∧ b0 < 18446744073709551616) ∧ (0 ≤ b1 ∧ b1 < 18446744073709551616) ∧ (0 ≤ b2 ∧ b2 < 18446744073709551616) ∧ (0 ≤ b3 ∧ b3 < 18446744073709551616)) ∧ (0 ≤ p ∧ p < 4000000000) ∧ 0 ≤ n ∧ n < 256) : awp ty G124 (code Tryz.f124) (retP ty Tryz.f124.results.toList (.one (.v (.agg #[.int .u64 (w4 ((V4 b0 b1 b2 b3) / 2 ^ p.toNat % 2 ^ n.toNat) 0), .int .u64 (w4 ((V4 b0 b1 b2 b3) / 2 ^ p.toNat % 2 ^ n.toNat) 1), .int .u64 (w4 ((V4 b0 b1 b2 b3) / 2 ^ p.toNat % 2 ^ n.toNat) 2), .int .u64 (w4 ((V4 b0 b1 b2 b3) / 2 ^ p.toNat % 2 ^ n.toNat) 3)])))) (entry 0 [.v (.agg #[.int .u64 b0, .int .u64 b1, .int .u64 b2, .int .u64 b3]), .v (.int .i64 p), .v (.int .i64 n)]) [] := by
  unfold code
  simp only [Tryz.f124, Option.getD_some]
  all_goals repeat' (first
 | ((with_reducible first | (refine ZA ?_; intro X hX) | (show awp _ _ _ _ (Kp _ _) _) | refine ZD ?_ | refine ZE ?_ | refine ZF ?_ | ((show Bg _ _ _ _ _); simp only [hall]) | (refine ZR ?_ ?_ <;> intro hb <;> (try simp only [hb]) <;> have hq := hb <;> try simp only [HQ] at hq)) <;> try simp only [Go.AM.SS, Nat.reduceAdd, Nat.reduceMul, Nat.reduceSub, ↓reduceIte, Nat.reduceEqDiff, Nat.reduceLT, Nat.reduceLeDiff, reduceCtorEq, Int.reduceBEq, Int.reduceBNe, Nat.reduceBEq, Int.reduceEq, Int.reduceToNat, Int.reduceLE, Int.reduceLT, Nat.reduceDiv, Int.reduceAdd, Int.reduceSub, Int.reduceMul, Int.reduceNeg, Int.reduceGT, Int.reduceGE, Nat.reduceMod, k124_187, s187.eq_1, s187_eq, k124_188, s188.eq_1, s188_eq, k124_189, s189.eq_1, s189_eq, ty_3, ty_22, ty_23, ty_24, and_w4, Nat.and_two_pow_sub_one_eq_mod])
 | with_reducible first
 | (refine hX _ _ ?_; clear hX X)
 | (refine ZG ?_; try clear hall all)
 | (refine hK _ _ ?_; clear hK K)
 | refine ZL ?_
 | (refine v_0 _ _ ?_; try clear v_0 V_0)
 | ((first | refine qr 1 [6] ?_ | refine qr 0 [1,2,3,6] ?_); intro V_0 v_0)
 | (refine ZM ?_; intro K hK)
 | (refine ZN ?_; intro all hall K hK)
 | (refine ZQ ?_ ?_)
 | refine ZT ?_ | refine ZU ?_ | refine ZW ?_)
  all_goals try clear v_0 V_0
  all_goals first
    | omega
    | exact ⟨hp.1, hp.2.1⟩
    | skip
theorem sound_124 : Sound Tryz.prog 124 .body (norm s124) := by
  refine sb Tryz.func124 rfl (by kernel_rfl) G124_ok (by kernel_rfl) fun ds p r hs hp => ?_
  unfold s124 at hs
  split at hs
  · cases hs; exact ⟨Nat.le_of_ble_eq_true (by kernel_rfl), wk124 _ _ _ _ _ _ hp⟩
  · cases hs
noncomputable def s190 : Cs := fun ds => match ds with
  | [.v (.agg ⟨[.int .u64 a0, .int .u64 a1, .int .u64 a2, .int .u64 a3]⟩), .v (.agg ⟨[.int .u64 b0, .int .u64 b1, .int .u64 b2, .int .u64 b3]⟩)] => some (True, .one (.v (.agg #[.int .u64 (AM.bits .or .u64 a0 b0), .int .u64 (AM.bits .or .u64 a1 b1), .int .u64 (AM.bits .or .u64 a2 b2), .int .u64 (AM.bits .or .u64 a3 b3)])))
  | _ => none
theorem s190_eq (a0 a1 a2 a3 : Int) (b0 b1 b2 b3 : Int) : norm s190 [.v (.agg #[.int .u64 a0, .int .u64 a1, .int .u64 a2, .int .u64 a3]), .v (.agg #[.int .u64 b0, .int .u64 b1, .int .u64 b2, .int .u64 b3])] = s190 [.v (.agg #[.int .u64 a0, .int .u64 a1, .int .u64 a2, .int .u64 a3]), .v (.agg #[.int .u64 b0, .int .u64 b1, .int .u64 b2, .int .u64 b3])] := rfl
noncomputable def G190 : Gam := []
theorem G190_ok : Gk Tryz.prog G190 := Gn
theorem wk190 (a0 a1 a2 a3 : Int) (b0 b1 b2 b3 : Int) (hp : True) : awp ty G190 (code Tryz.f190) (retP ty Tryz.f190.results.toList (.one (.v (.agg #[.int .u64 (AM.bits .or .u64 a0 b0), .int .u64 (AM.bits .or .u64 a1 b1), .int .u64 (AM.bits .or .u64 a2 b2), .int .u64 (AM.bits .or .u64 a3 b3)])))) (entry 0 [.v (.agg #[.int .u64 a0, .int .u64 a1, .int .u64 a2, .int .u64 a3]), .v (.agg #[.int .u64 b0, .int .u64 b1, .int .u64 b2, .int .u64 b3])]) [] := by
  unfold code
  simp only [Tryz.f190, Option.getD_some]
  all_goals repeat' (first
 | ((with_reducible first | (refine ZA ?_; intro X hX) | (refine ZB ?_; intro X hX) | (show awp _ _ _ _ (Kp _ _) _) | (refine hX _ _ _ _ ?_; clear hX X) | (refine ZC ?_; intro X hX) | refine ZD ?_ | refine ZE ?_ | refine ZF ?_ | ((show Bg _ _ _ _ _); simp only [hall]) | (refine ZR ?_ ?_ <;> intro hb <;> (try simp only [hb]) <;> have hq := hb <;> try simp only [HQ] at hq)) <;> try simp only [Go.AM.SS, Nat.reduceAdd, Nat.reduceMul, Nat.reduceSub, ↓reduceIte, Nat.reduceEqDiff, Nat.reduceLT, Nat.reduceLeDiff, reduceCtorEq, Int.reduceBEq, Int.reduceBNe, Nat.reduceBEq, Int.reduceEq, Int.reduceToNat, Int.reduceLE, Int.reduceLT, Nat.reduceDiv, Int.reduceAdd, Int.reduceSub, Int.reduceMul, Int.reduceNeg, Int.reduceGT, Int.reduceGE, Nat.reduceMod, ty_3, ty_22, ty_24])
 | with_reducible first
 | (refine hX _ _ ?_; clear hX X)
 | (refine ZI ?_; try clear hall all)
 | (refine ZJ ?_; kernel_rfl)
 | ((show clashK _ _ _ = true); kernel_rfl)
 | (refine ZG ?_; try clear hall all)
 | (refine ZH ?_; try clear hall all)
 | (refine hK _ _ ?_; clear hK K)
 | refine ZL ?_
 | (refine v_0 _ _ ?_; try clear v_0 V_0)
 | (refine v_1 _ _ ?_; try clear v_1 V_1)
 | (refine v_2 _ _ ?_; try clear v_2 V_2)
    | (with_reducible refine awp_unroll (Nat.succ (Nat.succ (Nat.succ (Nat.succ (Nat.succ Nat.zero))))) ?_)
 | ((first | refine qr 6 [4] ?_ | refine Zh (a := .seq (.region 1 _ _) _) [2,4] ?_ | refine qr 0 [2,3,4] ?_); intro V_0 v_0)
 | ((first | refine qb 1 [2,3,4,6] ?_ | refine Zh (a := .cond (.tmp 7) _ _) [2,3,4,6] ?_ | refine qr 2 [2,3,4,6,7] ?_ | refine qr 1 [2,3,4,6] ?_); intro V_1 v_1)
 | ((first | refine qr 3 [2,3,4,5,6] ?_); intro V_2 v_2)
 | (refine ZM ?_; intro K hK)
 | (refine ZN ?_; intro all hall K hK)
 | (refine Da (id := 4) ?_ ?_; kernel_rfl; intro all hall K hK)
 | (refine ZO ?_ ?_; kernel_rfl; intro all hall K hK)
 | (refine ZQ ?_ ?_)
 | (refine ZK ?_; kernel_rfl)
 | (refine Zg ?_; simp only [↓reduceIte, Nat.reduceEqDiff])
 | refine ZS ?_ | refine ZT ?_ | refine ZU ?_ | refine ZV ?_ | refine ZW ?_ | refine ZX ?_ | refine ZY ?_ | refine ZZ ?_ | refine Za ?_ | refine Zb ?_ | refine Zc ?_ | refine Zd ?_ | refine Ze ?_ | refine Zf ?_)
  all_goals try clear v_2 V_2
  all_goals try clear v_1 V_1
  all_goals try clear v_0 V_0
  all_goals (simp only [inR]; omega)
theorem sound_190 : Sound Tryz.prog 190 .body (norm s190) := by
  refine sb Tryz.func190 rfl (by kernel_rfl) G190_ok (by kernel_rfl) fun ds p r hs hp => ?_
  unfold s190 at hs
  split at hs
  · cases hs; exact ⟨Nat.le_of_ble_eq_true (by kernel_rfl), wk190 _ _ _ _ _ _ _ _ hp⟩
  · cases hs
noncomputable def s126 : Cs := fun ds => match ds with
  | [.v (.agg ⟨[.int .u64 b0, .int .u64 b1, .int .u64 b2, .int .u64 b3]⟩), .v (.agg ⟨[.int .u64 x0, .int .u64 x1, .int .u64 x2, .int .u64 x3]⟩), .v (.int .i64 p)] => some (((0 ≤ b0 ∧ b0 < 18446744073709551616) ∧ (0 ≤ b1 ∧ b1 < 18446744073709551616) ∧ (0 ≤ b2 ∧ b2 < 18446744073709551616) ∧ (0 ≤ b3 ∧ b3 < 18446744073709551616)) ∧ ((0 ≤ x0 ∧ x0 < 18446744073709551616) ∧ (0 ≤ x1 ∧ x1 < 18446744073709551616) ∧ (0 ≤ x2 ∧ x2 < 18446744073709551616) ∧ (0 ≤ x3 ∧ x3 < 18446744073709551616)) ∧ 0 ≤ p ∧ p < 4000000000, .one (.v (.agg #[.int .u64 (w4 ((V4 b0 b1 b2 b3) ||| ((V4 x0 x1 x2 x3) * 2 ^ p.toNat % 2 ^ 256)) 0), .int .u64 (w4 ((V4 b0 b1 b2 b3) ||| ((V4 x0 x1 x2 x3) * 2 ^ p.toNat % 2 ^ 256)) 1), .int .u64 (w4 ((V4 b0 b1 b2 b3) ||| ((V4 x0 x1 x2 x3) * 2 ^ p.toNat % 2 ^ 256)) 2), .int .u64 (w4 ((V4 b0 b1 b2 b3) ||| ((V4 x0 x1 x2 x3) * 2 ^ p.toNat % 2 ^ 256)) 3)])))
  | _ => none
theorem s126_eq (b0 b1 b2 b3 : Int) (x0 x1 x2 x3 : Int) (p : Int) : norm s126 [.v (.agg #[.int .u64 b0, .int .u64 b1, .int .u64 b2, .int .u64 b3]), .v (.agg #[.int .u64 x0, .int .u64 x1, .int .u64 x2, .int .u64 x3]), .v (.int .i64 p)] = s126 [.v (.agg #[.int .u64 b0, .int .u64 b1, .int .u64 b2, .int .u64 b3]), .v (.agg #[.int .u64 x0, .int .u64 x1, .int .u64 x2, .int .u64 x3]), .v (.int .i64 p)] := rfl
noncomputable def G126 : Gam := [(65, .body, norm s65), (190, .body, norm s190)]
theorem G126_ok : Gk Tryz.prog G126 := Gc sound_65 (Gc sound_190 Gn)
theorem k126_65 : lk G126 65 = some (.body, norm s65) := rfl
theorem k126_190 : lk G126 190 = some (.body, norm s190) := rfl
theorem wk126 (b0 b1 b2 b3 : Int) (x0 x1 x2 x3 : Int) (p : Int) (hp : ((0 ≤ b0 ∧ b0 < 18446744073709551616) ∧ (0 ≤ b1 ∧ b1 < 18446744073709551616) ∧ (0 ≤ b2 ∧ b2 < 18446744073709551616) ∧ (0 ≤ b3 ∧ b3 < 18446744073709551616)) ∧ ((0 ≤ x0 ∧ x0 < 18446744073709551616) ∧ (0 ≤ x1 ∧ x1 < 18446744073709551616) ∧ (0 ≤ x2 ∧ x2 < 18446744073709551616) ∧ (0 ≤ x3 ∧ x3 < 18446744073709551616)) ∧ 0 ≤ p ∧ p < 4000000000) : awp ty G126 (code Tryz.f126) (retP ty Tryz.f126.results.toList (.one (.v (.agg #[.int .u64 (w4 ((V4 b0 b1 b2 b3) ||| ((V4 x0 x1 x2 x3) * 2 ^ p.toNat % 2 ^ 256)) 0), .int .u64 (w4 ((V4 b0 b1 b2 b3) ||| ((V4 x0 x1 x2 x3) * 2 ^ p.toNat % 2 ^ 256)) 1), .int .u64 (w4 ((V4 b0 b1 b2 b3) ||| ((V4 x0 x1 x2 x3) * 2 ^ p.toNat % 2 ^ 256)) 2), .int .u64 (w4 ((V4 b0 b1 b2 b3) ||| ((V4 x0 x1 x2 x3) * 2 ^ p.toNat % 2 ^ 256)) 3)])))) (entry 0 [.v (.agg #[.int .u64 b0, .int .u64 b1, .int .u64 b2, .int .u64 b3]), .v (.agg #[.int .u64 x0, .int .u64 x1, .int .u64 x2, .int .u64 x3]), .v (.int .i64 p)]) [] := by
  unfold code
  simp only [Tryz.f126, Option.getD_some]
  all_goals repeat' (first
 | ((with_reducible first | (refine ZA ?_; intro X hX) | (refine ZB ?_; intro X hX) | (show awp _ _ _ _ (Kp _ _) _) | (refine hX _ _ _ _ ?_; clear hX X) | (refine ZC ?_; intro X hX) | refine ZD ?_ | refine ZE ?_ | refine ZF ?_ | ((show Bg _ _ _ _ _); simp only [hall]) | (refine ZR ?_ ?_ <;> intro hb <;> (try simp only [hb]) <;> have hq := hb <;> try simp only [HQ] at hq)) <;> try simp only [Go.AM.SS, Nat.reduceAdd, Nat.reduceMul, Nat.reduceSub, ↓reduceIte, Nat.reduceEqDiff, Nat.reduceLT, Nat.reduceLeDiff, reduceCtorEq, Int.reduceBEq, Int.reduceBNe, Nat.reduceBEq, Int.reduceEq, Int.reduceToNat, Int.reduceLE, Int.reduceLT, Nat.reduceDiv, Int.reduceAdd, Int.reduceSub, Int.reduceMul, Int.reduceNeg, Int.reduceGT, Int.reduceGE, Nat.reduceMod, k126_65, s65.eq_1, s65_eq, k126_190, s190.eq_1, s190_eq, ty_3, ty_22, ty_23, ty_24])
 | with_reducible first
 | (refine hX _ _ ?_; clear hX X)
 | (refine ZI ?_; try clear hall all)
 | (refine ZJ ?_; kernel_rfl)
 | ((show clashK _ _ _ = true); kernel_rfl)
 | (refine ZG ?_; try clear hall all)
 | (refine ZH ?_; try clear hall all)
 | (refine hK _ _ ?_; clear hK K)
 | refine ZL ?_
 | (refine v_0 _ _ ?_; try clear v_0 V_0)
 | ((first | refine qr 1 [6] ?_ | refine qr 0 [2,3,4,6] ?_); intro V_0 v_0)
 | (refine ZM ?_; intro K hK)
 | (refine ZN ?_; intro all hall K hK)
 | (refine Da (id := 1) ?_ ?_; kernel_rfl; intro all hall K hK)
 | (refine ZO ?_ ?_; kernel_rfl; intro all hall K hK)
 | (refine ZQ ?_ ?_)
 | (refine ZK ?_; kernel_rfl)
 | refine ZT ?_ | refine ZU ?_ | refine ZW ?_)
  all_goals try clear v_0 V_0
  all_goals first
    | omega
    | exact ⟨hp.2.1, hp.2.2⟩
    | skip
  all_goals (obtain ⟨f0, f1, f2, f3⟩ := w4_V4 hp.1.1 hp.1.2.1 hp.1.2.2.1 hp.1.2.2.2)
  all_goals (refine agg4 ⟨?_, ?_, ?_, ?_⟩)
  · rw [← or_w4, f0]
  · rw [← or_w4, f1]
  · rw [← or_w4, f2]
  · rw [← or_w4, f3]
theorem sound_126 : Sound Tryz.prog 126 .body (norm s126) := by
  refine sb Tryz.func126 rfl (by kernel_rfl) G126_ok (by kernel_rfl) fun ds p r hs hp => ?_
  unfold s126 at hs
  split at hs
  · cases hs; exact ⟨Nat.le_of_ble_eq_true (by kernel_rfl), wk126 _ _ _ _ _ _ _ _ _ hp⟩
  · cases hs
noncomputable def s127 : Cs := fun ds => match ds with
  | [.v (.int .i64 n)] => some (0 ≤ n ∧ n < 9223372036854775808, .one (.v (.agg #[.int .u64 n, .int .u64 0, .int .u64 0, .int .u64 0])))
  | _ => none
theorem s127_eq (n : Int) : norm s127 [.v (.int .i64 n)] = s127 [.v (.int .i64 n)] := rfl
noncomputable def G127 : Gam := []
theorem G127_ok : Gk Tryz.prog G127 := Gn
theorem wk127 (n : Int) (hp : 0 ≤ n ∧ n < 9223372036854775808) : awp ty G127 (code Tryz.f127) (retP ty Tryz.f127.results.toList (.one (.v (.agg #[.int .u64 n, .int .u64 0, .int .u64 0, .int .u64 0])))) (entry 0 [.v (.int .i64 n)]) [] := by
  unfold code
  simp only [Tryz.f127, Option.getD_some]
  have hn : n % 18446744073709551616 = n := by omega
  all_goals repeat' (first
 | ((with_reducible first | (refine ZA ?_; intro X hX) | (show awp _ _ _ _ (Kp _ _) _) | refine ZD ?_ | refine ZE ?_ | refine ZF ?_ | ((show Bg _ _ _ _ _); simp only [hall]) | (refine ZR ?_ ?_ <;> intro hb <;> (try simp only [hb]) <;> have hq := hb <;> try simp only [HQ] at hq)) <;> try simp only [Go.AM.SS, Nat.reduceAdd, Nat.reduceMul, Nat.reduceSub, ↓reduceIte, Nat.reduceEqDiff, Nat.reduceLT, Nat.reduceLeDiff, reduceCtorEq, Int.reduceBEq, Int.reduceBNe, Nat.reduceBEq, Int.reduceEq, Int.reduceToNat, Int.reduceLE, Int.reduceLT, Nat.reduceDiv, Int.reduceAdd, Int.reduceSub, Int.reduceMul, Int.reduceNeg, Int.reduceGT, Int.reduceGE, Nat.reduceMod, ty_3, ty_22, ty_24, hn])
 | with_reducible first
 | (refine hX _ _ ?_; clear hX X)
 | (refine ZG ?_; try clear hall all)
 | (refine hK _ _ ?_; clear hK K)
 | refine ZL ?_
 | (refine v_0 _ _ ?_; try clear v_0 V_0)
 | ((first | refine qr 1 [2] ?_ | refine qr 0 [0,2] ?_); intro V_0 v_0)
 | (refine ZM ?_; intro K hK)
 | (refine ZN ?_; intro all hall K hK)
 | (refine ZQ ?_ ?_)
 | refine ZT ?_ | refine ZU ?_ | refine ZW ?_)
  all_goals try clear v_0 V_0
theorem sound_127 : Sound Tryz.prog 127 .body (norm s127) := by
  refine sb Tryz.func127 rfl (by kernel_rfl) G127_ok (by kernel_rfl) fun ds p r hs hp => ?_
  unfold s127 at hs
  split at hs
  · cases hs; exact ⟨Nat.le_of_ble_eq_true (by kernel_rfl), wk127 _ hp⟩
  · cases hs
noncomputable def s130 : Cs := fun ds => match ds with
  | [.v (.agg ⟨[.int .i64 i0, .string i1, .int .i64 i2, .int .i64 i3, .int .i64 i4, .int .i64 i5, .int .i64 i6, .int .i64 i7, .int .i64 i8, .bool i9]⟩), .v (.agg ⟨[.int .i64 cl, .bool sg, .bool si, .int .i64 ex, .int .u64 c0, .int .u64 c1, .int .u64 c2, .int .u64 c3]⟩)] => some (((0 ≤ c0 ∧ c0 < 18446744073709551616) ∧ (0 ≤ c1 ∧ c1 < 18446744073709551616) ∧ (0 ≤ c2 ∧ c2 < 18446744073709551616) ∧ (0 ≤ c3 ∧ c3 < 18446744073709551616)) ∧ ((cl = 1 ∧ si = false ∧ i6 ≤ ex ∧ ex ≤ i7 ∧ ((blen (V4 c0 c1 c2 c3) : Int) = i4 ∨ ((blen (V4 c0 c1 c2 c3) : Int) < i4 ∧ ex = i6))) ∨ (cl = 2 ∧ si = false ∧ blen (V4 c0 c1 c2 c3) = 0 ∧ ex = 0) ∨ (cl = 3 ∧ ex = 0 ∧ (blen (V4 c0 c1 c2 c3) : Int) ≤ i8 ∧ (blen (V4 c0 c1 c2 c3) ≠ 0 ∨ si = false))), .one (.v (.bool true)))
  | _ => none
theorem s130_eq (i0 : Int) (i1 : ByteArray) (i2 : Int) (i3 : Int) (i4 : Int) (i5 : Int) (i6 : Int) (i7 : Int) (i8 : Int) (i9 : Bool) (cl : Int) (sg : Bool) (si : Bool) (ex : Int) (c0 : Int) (c1 : Int) (c2 : Int) (c3 : Int) : norm s130 [.v (.agg #[.int .i64 i0, .string i1, .int .i64 i2, .int .i64 i3, .int .i64 i4, .int .i64 i5, .int .i64 i6, .int .i64 i7, .int .i64 i8, .bool i9]), .v (.agg #[.int .i64 cl, .bool sg, .bool si, .int .i64 ex, .int .u64 c0, .int .u64 c1, .int .u64 c2, .int .u64 c3])] = s130 [.v (.agg #[.int .i64 i0, .string i1, .int .i64 i2, .int .i64 i3, .int .i64 i4, .int .i64 i5, .int .i64 i6, .int .i64 i7, .int .i64 i8, .bool i9]), .v (.agg #[.int .i64 cl, .bool sg, .bool si, .int .i64 ex, .int .u64 c0, .int .u64 c1, .int .u64 c2, .int .u64 c3])] := rfl
noncomputable def G130 : Gam := [(64, .body, norm s64)]
theorem G130_ok : Gk Tryz.prog G130 := Gc sound_64 Gn
theorem k130_64 : lk G130 64 = some (.body, norm s64) := rfl
theorem wk130 (i0 : Int) (i1 : ByteArray) (i2 : Int) (i3 : Int) (i4 : Int) (i5 : Int) (i6 : Int) (i7 : Int) (i8 : Int) (i9 : Bool) (cl : Int) (sg : Bool) (si : Bool) (ex : Int) (c0 : Int) (c1 : Int) (c2 : Int) (c3 : Int) (hp : ((0 ≤ c0 ∧ c0 < 18446744073709551616) ∧ (0 ≤ c1 ∧ c1 < 18446744073709551616) ∧ (0 ≤ c2 ∧ c2 < 18446744073709551616) ∧ (0 ≤ c3 ∧ c3 < 18446744073709551616)) ∧ ((cl = 1 ∧ si = false ∧ i6 ≤ ex ∧ ex ≤ i7 ∧ ((blen (V4 c0 c1 c2 c3) : Int) = i4 ∨ ((blen (V4 c0 c1 c2 c3) : Int) < i4 ∧ ex = i6))) ∨ (cl = 2 ∧ si = false ∧ blen (V4 c0 c1 c2 c3) = 0 ∧ ex = 0) ∨ (cl = 3 ∧ ex = 0 ∧ (blen (V4 c0 c1 c2 c3) : Int) ≤ i8 ∧ (blen (V4 c0 c1 c2 c3) ≠ 0 ∨ si = false)))) : awp ty G130 (code Tryz.f130) (retP ty Tryz.f130.results.toList (.one (.v (.bool true)))) (entry 0 [.v (.agg #[.int .i64 i0, .string i1, .int .i64 i2, .int .i64 i3, .int .i64 i4, .int .i64 i5, .int .i64 i6, .int .i64 i7, .int .i64 i8, .bool i9]), .v (.agg #[.int .i64 cl, .bool sg, .bool si, .int .i64 ex, .int .u64 c0, .int .u64 c1, .int .u64 c2, .int .u64 c3])]) [] := by
  unfold code
  simp only [Tryz.f130, Option.getD_some]
  have hc := hp.1
  rcases hp.2 with ⟨rfl, rfl, h1, h2, h3 | ⟨h3, h4⟩⟩ | ⟨rfl, rfl, h1, rfl⟩ | ⟨rfl, rfl, h1, h2 | rfl⟩
  all_goals clear hp
  all_goals first
    | (have g1 : decide (ex ≥ i6) = true := by simp only [decide_eq_true_eq]; omega)
    | (have g1 : decide (ex ≥ i6) = false := by simp only [decide_eq_false_iff_not]; omega)
    | (have g1 : decide ((4 : Int) ≥ 5) = false := rfl)
  all_goals first
    | (have g2 : decide (ex ≤ i7) = true := by simp only [decide_eq_true_eq]; omega)
    | (have g2 : decide (ex ≤ i7) = false := by simp only [decide_eq_false_iff_not]; omega)
    | (have g2 : decide ((4 : Int) ≥ 5) = false := rfl)
  all_goals first
    | (have g3 : ((blen (V4 c0 c1 c2 c3) : Int) == i4) = true := by simp only [beq_iff_eq]; omega)
    | (have g3 : ((blen (V4 c0 c1 c2 c3) : Int) == i4) = false := by simp only [beq_eq_false_iff_ne, ne_eq]; omega)
    | (have g3 : decide ((4 : Int) ≥ 5) = false := rfl)
  all_goals first
    | (have g4 : decide ((blen (V4 c0 c1 c2 c3) : Int) < i4) = true := by simp only [decide_eq_true_eq]; omega)
    | (have g4 : decide ((blen (V4 c0 c1 c2 c3) : Int) < i4) = false := by simp only [decide_eq_false_iff_not]; omega)
    | (have g4 : decide ((4 : Int) ≥ 5) = false := rfl)
  all_goals first
    | (have g5 : (ex == i6) = true := by simp only [beq_iff_eq]; omega)
    | (have g5 : (ex == i6) = false := by simp only [beq_eq_false_iff_ne, ne_eq]; omega)
    | (have g5 : decide ((4 : Int) ≥ 5) = false := rfl)
  all_goals first
    | (have g6 : decide ((blen (V4 c0 c1 c2 c3) : Int) ≤ i8) = true := by simp only [decide_eq_true_eq]; omega)
    | (have g6 : decide ((blen (V4 c0 c1 c2 c3) : Int) ≤ i8) = false := by simp only [decide_eq_false_iff_not]; omega)
    | (have g6 : decide ((4 : Int) ≥ 5) = false := rfl)
  all_goals first
    | (have g7 : ((blen (V4 c0 c1 c2 c3) : Int) == 0) = true := by simp only [beq_iff_eq]; omega)
    | (have g7 : ((blen (V4 c0 c1 c2 c3) : Int) == 0) = false := by simp only [beq_eq_false_iff_ne, ne_eq]; omega)
    | (have g7 : decide ((4 : Int) ≥ 5) = false := rfl)
  all_goals repeat' (first
 | ((with_reducible first | (refine ZA ?_; intro X hX) | (show awp _ _ _ _ (Kp _ _) _) | refine ZD ?_ | refine ZE ?_ | refine ZF ?_ | ((show Bg _ _ _ _ _); simp only [hall]) | (refine ZR ?_ ?_ <;> intro hb <;> (try simp only [hb]) <;> have hq := hb <;> try simp only [HQ] at hq)) <;> try simp only [Go.AM.SS, Nat.reduceAdd, Nat.reduceMul, Nat.reduceSub, ↓reduceIte, Nat.reduceEqDiff, Nat.reduceLT, Nat.reduceLeDiff, reduceCtorEq, Int.reduceBEq, Int.reduceBNe, Nat.reduceBEq, Int.reduceEq, Int.reduceToNat, Int.reduceLE, Int.reduceLT, Nat.reduceDiv, Int.reduceAdd, Int.reduceSub, Int.reduceMul, Int.reduceNeg, Int.reduceGT, Int.reduceGE, Nat.reduceMod, k130_64, s64.eq_1, s64_eq, ty_3, ty_4, ty_9, ty_22, ty_23, ty_24, ty_33, ty_95, g1, g2, g3, g4, g5, g6, g7])
 | with_reducible first
 | (refine hX _ _ ?_; clear hX X)
 | (refine ZG ?_; try clear hall all)
 | (refine hK _ _ ?_; clear hK K)
 | refine ZL ?_
 | (refine v_0 _ _ ?_; try clear v_0 V_0)
 | (refine v_1 _ _ ?_; try clear v_1 V_1)
 | ((first | refine qr 9 [4] ?_ | refine Zh (a := .seq (.region 2 _ _) _) [] ?_ | refine qr 1 [2,3,5] ?_ | refine qr 0 [2,3] ?_); intro V_0 v_0)
 | ((first | refine qr 4 [4] ?_ | refine qr 6 [4] ?_ | refine qr 8 [4] ?_ | refine qr 7 [2,3,5,63] ?_ | refine qr 5 [2,3,5,10,49] ?_ | refine qr 3 [2,3,5,10,11] ?_ | refine qr 2 [2,3,5,10] ?_); intro V_1 v_1)
 | (refine ZM ?_; intro K hK)
 | (refine ZN ?_; intro all hall K hK)
 | (refine ZQ ?_ ?_)
 | (refine Zg ?_; simp only [↓reduceIte, Nat.reduceEqDiff])
 | refine ZS ?_ | refine ZT ?_ | refine ZU ?_ | refine ZV ?_ | refine ZW ?_ | refine ZX ?_ | refine Ze ?_ | refine Zf ?_)
  all_goals try clear v_1 V_1
  all_goals try clear v_0 V_0
  all_goals first
    | omega
    | exact hc
    | skip
theorem sound_130 : Sound Tryz.prog 130 .body (norm s130) := by
  refine sb Tryz.func130 rfl (by kernel_rfl) G130_ok (by kernel_rfl) fun ds p r hs hp => ?_
  unfold s130 at hs
  split at hs
  · cases hs; exact ⟨Nat.le_of_ble_eq_true (by kernel_rfl), wk130 _ _ _ _ _ _ _ _ _ _ _ _ _ _ _ _ _ _ hp⟩
  · cases hs
end Go.Proofs.AMT
