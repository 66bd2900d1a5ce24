/- Part 9 of the proof: own text (LN30, LN31, LN32, LN33, LN34, FnativeFromInt, Fcaliperref04Binary, Fcaliperref04Direction, Fcaliperref02Size, Fcaliperref04Of, Fcaliperref02Len, Fcaliperref05Is, Fcaliperref02word, Fcaliperref02Bits, Fcaliperref02Trim, Fcaliperref02Left, Fcaliperref02Add). -/
import Derived.Test.YtknejocjkjpfmaaK0
import Derived.Test.YtknejocjkjpfmaaK1
import Derived.Test.YtknejocjkjpfmaaK2
import Derived.Test.YtknejocjkjpfmaaK3
import Derived.Test.YtknejocjkjpfmaaK4
import Derived.Test.YtknejocjkjpfmaaK5
import Derived.Test.YtknejocjkjpfmaaK6
import Derived.Test.YtknejocjkjpfmaaK7
import Derived.Test.YtknejocjkjpfmaaK8
set_option linter.all false
set_option maxRecDepth 20000
namespace Go.AM.LN
theorem gone_t1 {a : List Int} {w t s : Nat} (h1 : (s : Int) < w) (h2 : ¬ a.getD s 0 = 0) : goneS a w t (s + 1) = true := by
  rw [goneS_succ]; unfold goneF
  rw [decide_eq_true (show s < w by omega)]
  simp [h2]
  exact .inr (.inl (by simpa using h2))
theorem gone_t2 {a : List Int} {w t s : Nat} (h1 : (s : Int) = w) (h2 : ¬ AM.bits .and .u64 (a.getD s 0) (2 ^ t - 1) = 0) : goneS a w t (s + 1) = true := by
  rw [goneS_succ]; unfold goneF
  rw [decide_eq_true (show s = w by omega)]
  have h3 : (AM.bits .and .u64 (a.getD s 0) (2 ^ t - 1) != 0) = true := by rw [bne_iff_ne]; exact h2
  rw [h3]
  simp
theorem gone_f {a : List Int} {w t s : Nat} (h1 : (s : Int) < w → a.getD s 0 = 0) (h2 : (s : Int) = w → AM.bits .and .u64 (a.getD s 0) (2 ^ t - 1) = 0) : goneS a w t (s + 1) = goneS a w t s := by
  rw [goneS_succ]; unfold goneF
  have e1 : (decide (s < w) && (a.getD s 0 != 0)) = false := by
    by_cases h : s < w
    · rw [h1 (by omega)]; simp
    · rw [decide_eq_false h]; simp
  have e2 : (decide (s = w) && (AM.bits .and .u64 (a.getD s 0) (2 ^ t - 1) != 0)) = false := by
    by_cases h : s = w
    · rw [h2 (by omega)]; simp
    · rw [decide_eq_false h]; simp
  rw [e1, e2]; simp
def rX (a : List Int) (i t : Nat) : Nat := (a.getD i 0).toNat / 2 ^ t + (a.getD (i + 1) 0).toNat * 2 ^ (64 - t) % 18446744073709551616
theorem rX_lt {a : List Int} (la : lim a) {i t : Nat} (ht : t ≤ 63) : rX a i t < 18446744073709551616 := right_x la ht
theorem rX0 {a : List Int} (la : lim a) {i t : Nat} (ht : t = 0) : a.getD i 0 / 2 ^ t = (rX a i t : Int) := by
  have h := lim_get la (i := i)
  unfold rX
  rw [castShr2 h.1, ht]
  have : (a.getD (i + 1) 0).toNat * 2 ^ (64 - 0) % 18446744073709551616 = 0 := by omega
  rw [this]; simp
theorem rX1 {a : List Int} (la : lim a) {i t : Nat} (ht : t ≤ 63) : AM.bits .or .u64 (a.getD i 0 / 2 ^ t) (a.getD (i + 1) 0 * 2 ^ (64 - t) % 18446744073709551616) = (rX a i t : Int) :=
  shr_word (lim_get la) (lim_get la) (by omega)
theorem right_go {a o : List Int} (la : lim a) {i w t : Nat} (ht : t ≤ 63) (hl : o.length = i - w) (hw : w ≤ i)
    (h : val o + 2 ^ (64 * (i - w)) * (val (a.drop i) / 2 ^ t) = val (a.drop w) / 2 ^ t) : val (o ++ [(rX a i t : Int)]) + 2 ^ (64 * (i + 1 - w)) * (val (a.drop (i + 1)) / 2 ^ t) = val (a.drop w) / 2 ^ t :=
  right_step la ht hl hw rfl h
end Go.AM.LN
set_option maxRecDepth 20000
namespace Go.AM.LN
/-! Long division bit by bit. -/
structure OvI (x y k r Q : Nat) : Prop where
  e : x = Q * y + r
  l : r < y * 2 ^ k
  m : Q % 2 ^ k = 0
theorem ov_init {x y : Nat} (hy : 0 < y) (h : blen y ≤ blen x) : OvI x y (blen x - blen y + 1) x 0 := by
  refine ⟨by omega, ?_, Nat.zero_mod _⟩
  have b1 : 1 ≤ blen y := by have := @blen_zero y; omega
  have y1 : 2 ^ (blen y - 1) ≤ y := blen_le.1 (by omega)
  have x2 : x < 2 ^ blen x := blen_lt.1 (Nat.le_refl _)
  refine Nat.lt_of_lt_of_le x2 ?_
  rw [show blen x = blen y - 1 + (blen x - blen y + 1) by omega, Nat.pow_add]
  rw [show blen y - 1 + (blen x - blen y + 1) - blen y + 1 = blen x - blen y + 1 by omega]
  exact Nat.mul_le_mul_right _ y1
theorem mod_half {Q k : Nat} (h : Q % 2 ^ (k + 1) = 0) : Q % 2 ^ k = 0 := by
  obtain ⟨m, rfl⟩ := Nat.dvd_of_mod_eq_zero h
  rw [Nat.pow_succ, Nat.mul_assoc, Nat.mul_mod_right]
theorem ov_no {x y k r Q : Nat} (h : OvI x y (k + 1) r Q) (hr : r < y * 2 ^ k) : OvI x y k r Q := ⟨h.e, hr, mod_half h.m⟩
theorem ov_yes {x y k r Q : Nat} (h : OvI x y (k + 1) r Q) (hr : y * 2 ^ k ≤ r) : OvI x y k (r - y * 2 ^ k) (Q + 2 ^ k) := by
  refine ⟨?_, ?_, ?_⟩
  · have := h.e
    rw [Nat.add_mul, Nat.mul_comm (2 ^ k)]
    omega
  · have := h.l
    rw [Nat.pow_succ, ← Nat.mul_assoc] at this
    omega
  · rw [Nat.add_mod, mod_half h.m, Nat.mod_self]; simp
theorem ov_fin {x y r Q : Nat} (h : OvI x y 0 r Q) : Q = x / y ∧ r = x % y := by
  have h1 := h.l
  rw [Nat.pow_zero, Nat.mul_one] at h1
  have := dm_add x y Q r (by omega) h1 h.e
  exact ⟨this.1.symm, this.2.symm⟩
theorem half_pow (y k : Nat) : y * 2 ^ (k + 1) / 2 = y * 2 ^ k := by
  rw [Nat.pow_succ, ← Nat.mul_assoc, Nat.mul_div_cancel _ (by omega)]
/-- A bit that isn't set is set. -/
theorem set_bit {q : List Int} (lq : lim q) {k : Nat} (hk : k / 64 < q.length) (h : val q % 2 ^ (k + 1) = 0) :
    AM.bits .or .u64 (q.getD (k / 64) 0) (2 ^ (k % 64)) = (((q.getD (k / 64) 0).toNat + 2 ^ (k % 64) : Nat) : Int) ∧ (q.getD (k / 64) 0).toNat + 2 ^ (k % 64) < 18446744073709551616 ∧ val (q.set (k / 64) (((q.getD (k / 64) 0).toNat + 2 ^ (k % 64) : Nat) : Int)) = val q + 2 ^ k := by
  have hd := val_getD q (k / 64) lq
  have hg := lim_get lq (i := k / 64)
  have ht : k % 64 < 64 := Nat.mod_lt _ (by omega)
  have hk2 : k = 64 * (k / 64) + k % 64 := by omega
  generalize k / 64 = w at *
  generalize k % 64 = t at *
  obtain ⟨c, hc⟩ : ∃ c, (q.getD w 0).toNat = c := ⟨_, rfl⟩
  have hcm : c % 2 ^ (t + 1) = 0 := by
    rw [← hc, ← hd]
    have e1 : (18446744073709551616 : Nat) = 2 ^ (t + 1) * 2 ^ (64 - (t + 1)) := by rw [← Nat.pow_add, show t + 1 + (64 - (t + 1)) = 64 by omega]
    rw [e1, Nat.mod_mul_right_mod]
    obtain ⟨m, hm⟩ := Nat.dvd_of_mod_eq_zero h
    rw [hm, hk2, show 64 * w + t + 1 = 64 * w + (t + 1) by omega, Nat.pow_add, Nat.mul_assoc, Nat.mul_div_cancel_left _ (Nat.two_pow_pos _), Nat.mul_mod_right]
  have ht2 : 2 ^ t < 18446744073709551616 := Nat.pow_lt_pow_right (by omega) ht
  have hsum : c + 2 ^ t < 18446744073709551616 := by
    obtain ⟨m, hm⟩ := Nat.dvd_of_mod_eq_zero hcm
    have e1 : (18446744073709551616 : Nat) = 2 ^ (t + 1) * 2 ^ (64 - (t + 1)) := by rw [← Nat.pow_add, show t + 1 + (64 - (t + 1)) = 64 by omega]
    have hlt : c < 18446744073709551616 := by omega
    rw [hm, e1] at hlt
    have h3 : m < 2 ^ (64 - (t + 1)) := Nat.lt_of_mul_lt_mul_left hlt
    have h4 : 2 ^ (t + 1) * (m + 1) ≤ 18446744073709551616 := by rw [e1]; exact Nat.mul_le_mul_left _ h3
    rw [Nat.mul_add, Nat.mul_one, ← hm, Nat.pow_succ] at h4
    have := Nat.two_pow_pos t
    omega
  have hor : c ||| 2 ^ t = c + 2 ^ t := by
    obtain ⟨m, hm⟩ := Nat.dvd_of_mod_eq_zero hcm
    rw [hm, Nat.mul_comm, ← Nat.shiftLeft_eq, ← Nat.shiftLeft_add_eq_or_of_lt (Nat.pow_lt_pow_right (by omega) (by omega))]
  have hp : ((2 : Int) ^ t).toNat = 2 ^ t := by
    have : ((2 : Int) ^ t) = ((2 ^ t : Nat) : Int) := by simp
    rw [this, Int.toNat_natCast]
  have hp2 : 0 ≤ (2 : Int) ^ t ∧ (2 : Int) ^ t < 18446744073709551616 := by
    have : ((2 : Int) ^ t) = ((2 ^ t : Nat) : Int) := by simp
    rw [this]; omega
  refine ⟨?_, by rw [hc]; exact hsum, ?_⟩
  · rw [or_u64 hg hp2, hp, hc, hor]
  · have hs := val_set hk (((c + 2 ^ t : Nat)) : Int)
    rw [hc] at hs ⊢
    rw [Int.toNat_natCast, Nat.mul_add, ← Nat.pow_add, ← hk2] at hs
    omega
theorem pow_int {t : Nat} (ht : t < 64) : 1 * (2 : Int) ^ t % 18446744073709551616 = 2 ^ t := by
  have : ((2 : Int) ^ t) = ((2 ^ t : Nat) : Int) := by simp
  have h2 : 2 ^ t < 18446744073709551616 := Nat.pow_lt_pow_right (by omega) ht
  rw [Int.one_mul, this]
  generalize 2 ^ t = z at *
  omega
/-! Powers by squaring. -/
theorem pw_odd {x y m B : Nat} (h : x * y ^ m = B) (hm : m % 2 = 1) : x * y * (y * y) ^ (m / 2) = B := by
  have e : m = 2 * (m / 2) + 1 := by omega
  rw [e, Nat.pow_succ, Nat.pow_mul] at h
  rw [show y ^ 2 = y * y by rw [Nat.pow_succ, Nat.pow_one]] at h
  rw [← h, Nat.mul_assoc, Nat.mul_comm y]
theorem pw_even {x y m B : Nat} (h : x * y ^ m = B) (hm : ¬ m % 2 = 1) : x * (y * y) ^ (m / 2) = B := by
  have e : m = 2 * (m / 2) := by omega
  rw [e, Nat.pow_mul] at h
  rw [show y ^ 2 = y * y by rw [Nat.pow_succ, Nat.pow_one]] at h
  exact h
theorem pw_le {x y m B : Nat} (h : x * y ^ m = B) (hB : 0 < B) (hm : 0 < m) : x ≤ B ∧ y ≤ B ∧ 0 < x ∧ 0 < y := by
  have hx : 0 < x := Nat.pos_of_ne_zero fun h0 => by subst h0; simp at h; omega
  have hy : 0 < y := Nat.pos_of_ne_zero fun h0 => by subst h0; rw [Nat.zero_pow hm] at h; omega
  have h1 : 0 < y ^ m := Nat.pow_pos hy
  refine ⟨?_, ?_, hx, hy⟩
  · rw [← h]; exact Nat.le_mul_of_pos_right _ h1
  · rw [← h]
    exact Nat.le_trans (Nat.le_self_pow (by omega) y) (Nat.le_mul_of_pos_left _ hx)
theorem pw_len {b n : Nat} (hb : b < 18446744073709551616) : (limbs (b ^ n)).length ≤ n + 1 := by
  refine len_le_of (Nat.lt_of_le_of_lt (m := 2 ^ (64 * n)) ?_ (Nat.pow_lt_pow_right (by omega) (by omega)))
  rw [Nat.pow_mul]
  exact Nat.pow_le_pow_left (Nat.le_of_lt hb) n
theorem limbs_getD (X i : Nat) : (limbs X).getD i 0 = w4 X i := by
  have h := val_getD (limbs X) i (lim_limbs X)
  rw [val_limbs] at h
  have := lim_get (lim_limbs X) (i := i)
  unfold w4
  omega
end Go.AM.LN
set_option maxRecDepth 20000
namespace Go.AM.LN
open Go
/-! A pattern as a sum of its fields. -/
theorem or_add {X Y k : Nat} (h : X < 2 ^ k) : X ||| Y * 2 ^ k = X + Y * 2 ^ k := by
  rw [Nat.or_comm, Nat.add_comm, ← Nat.shiftLeft_eq, ← Nat.shiftLeft_add_eq_or_of_lt h]
theorem two256' : (2 : Nat) ^ 256 = 2 ^ 256 := rfl
def packN (n cl : Int) (si : Bool) (C : Nat) : Nat := C % 2 ^ (fp n - 1).toNat + if cl = 3 ∧ si = false then 2 ^ (fp n - 2).toNat else 0
theorem eS_le {n cl : Int} {si : Bool} {C : Nat} {ex : Int} (hn : 1 ≤ n ∧ n ≤ 6) (hd : isD n cl si C ex) : (eS cl n C ex).toNat ≤ 2 ^ (fx n).toNat - 1 := by
  have F := bfmt hn
  have hee : (2 : Int) ^ (fx n).toNat = ((2 ^ (fx n).toNat : Nat) : Int) := by simp
  have F1 := F.ee
  have F2 := F.e15
  rw [hee] at F1
  unfold eS
  rcases hd with ⟨rfl, rfl, h1, h2, h3⟩ | ⟨rfl, rfl, h1, h2⟩ | ⟨rfl, h1, h2, h3⟩
  · rw [if_pos rfl]
    split <;> omega
  · rw [if_neg (by omega)]; rw [hee]; omega
  · rw [if_neg (by omega)]; rw [hee]; omega
theorem packN_lt {n cl : Int} {si : Bool} {C : Nat} {ex : Int} (hn : 1 ≤ n ∧ n ≤ 6) (hd : isD n cl si C ex) : packN n cl si C < 2 ^ (fp n - 1).toNat ∧ packF n cl si C = packN n cl si C := by
  have F := bfmt hn
  have p8 := F.p8
  have p241 := F.p241
  have hl := F.l
  have h0 : C % 2 ^ (fp n - 1).toNat < 2 ^ (fp n - 1).toNat := Nat.mod_lt _ (Nat.two_pow_pos _)
  have e1 : 2 ^ (fp n - 1).toNat = 2 * 2 ^ (fp n - 2).toNat := by
    rw [show (fp n - 1).toNat = (fp n - 2).toNat + 1 by omega, Nat.pow_succ, Nat.mul_comm]
  unfold packN packF
  by_cases h : cl = 3 ∧ si = false
  · rw [if_pos h, if_pos h]
    have hC : C < 2 ^ (fp n - 2).toNat := by
      rcases hd with ⟨h1, _⟩ | ⟨h1, _⟩ | ⟨_, _, h2, _⟩
      · omega
      · omega
      · exact blen_lt.1 (by omega)
    have h256 : 2 ^ (fp n - 2).toNat < 2 ^ 256 := Nat.pow_lt_pow_right (by omega) (by omega)
    rw [Nat.mod_eq_of_lt (by omega), Nat.one_mul, Nat.mod_eq_of_lt h256]
    refine ⟨by omega, ?_⟩
    have := or_add (Y := 1) hC
    rw [Nat.one_mul] at this
    exact this
  · rw [if_neg h, if_neg h]
    exact ⟨h0, rfl⟩
theorem packS_sum {n cl : Int} {sg si : Bool} {C : Nat} {ex : Int} (hn : 1 ≤ n ∧ n ≤ 6) (hd : isD n cl si C ex) :
    packS n cl sg si C ex = packN n cl si C + (eS cl n C ex).toNat * 2 ^ (fp n - 1).toNat + (if sg then 2 ^ (fp n - 1 + fx n).toNat else 0) ∧ packN n cl si C + (eS cl n C ex).toNat * 2 ^ (fp n - 1).toNat < 2 ^ (fp n - 1 + fx n).toNat ∧ 2 ^ (fp n - 1 + fx n).toNat + 2 ^ (fp n - 1 + fx n).toNat ≤ 2 ^ 256 := by
  have F := bfmt hn
  have p8 := F.p8
  have p241 := F.p241
  have x5 := F.x5
  have x15 := F.x15
  have hw := F.w
  obtain ⟨N1, N2⟩ := packN_lt hn hd
  have hE := eS_le hn hd
  have hB : packB n cl si C ex = packN n cl si C ||| ((eS cl n C ex).toNat * 2 ^ (fp n - 1).toNat % 2 ^ 256) := by unfold packB; rw [N2]
  generalize (eS cl n C ex).toNat = E at *
  generalize packN n cl si C = P at *
  have hw1 : fp n - 1 + fx n = fw n - 1 := by omega
  have hpx : 2 ^ (fp n - 1 + fx n).toNat = 2 ^ (fp n - 1).toNat * 2 ^ (fx n).toNat := by rw [← Nat.pow_add]; congr 1; omega
  have hsm : P + E * 2 ^ (fp n - 1).toNat < 2 ^ (fp n - 1 + fx n).toNat := by
    rw [hpx]
    have h1 : (E + 1) * 2 ^ (fp n - 1).toNat ≤ 2 ^ (fx n).toNat * 2 ^ (fp n - 1).toNat := Nat.mul_le_mul_right _ (by have := Nat.two_pow_pos (fx n).toNat; omega)
    rw [Nat.add_mul, Nat.one_mul] at h1
    rw [Nat.mul_comm (2 ^ (fp n - 1).toNat)]
    omega
  have h255 : 2 ^ (fp n - 1 + fx n).toNat ≤ 2 ^ 255 := Nat.pow_le_pow_right (by omega) (by omega)
  have h256 : (2 : Nat) ^ 255 + 2 ^ 255 = 2 ^ 256 := by decide
  have h255p : (0 : Nat) < 2 ^ 255 := Nat.two_pow_pos _
  generalize hM : (2 : Nat) ^ 256 = M at *
  generalize (2 : Nat) ^ 255 = M2 at *
  have hor := or_add (Y := E) N1
  have hB2 : packB n cl si C ex = P + E * 2 ^ (fp n - 1).toNat := by
    rw [hB, Nat.mod_eq_of_lt (by omega)]; exact hor
  refine ⟨?_, hsm, by omega⟩
  unfold packS
  rw [hB2, ← hw1, hM]
  cases sg
  · rfl
  · rw [if_pos rfl, if_pos rfl, Nat.one_mul, Nat.mod_eq_of_lt (by omega)]
    have h := or_add (Y := 1) hsm
    rw [Nat.one_mul] at h
    exact h
end Go.AM.LN
set_option maxRecDepth 20000
namespace Go.AM.LN
open Go
theorem len_valpow {a : List Int} (la : lim a) (k : Nat) : (limbs (val a * 2 ^ k)).length ≤ a.length + k / 64 + 1 := by
  refine len_le_of (Nat.lt_of_lt_of_le (m := 2 ^ (64 * a.length) * 2 ^ k) (Nat.mul_lt_mul_of_pos_right (val_lt la) (Nat.two_pow_pos _)) ?_)
  rw [← Nat.pow_add]
  exact Nat.pow_le_pow_right (by omega) (by omega)
theorem mod_sub {X P : Nat} : X / P * P ≤ X ∧ X - X / P * P = X % P := by
  have h := Nat.div_add_mod X P
  rw [Nat.mul_comm] at h
  omega
theorem toNat_pow0 : (2 : Nat) ^ (0 : Int).toNat = 1 := rfl
/-- A datum's pattern, by its kind. -/
theorem packS_c1d {n : Int} {sg : Bool} {C : Nat} {ex : Int} (hn : 1 ≤ n ∧ n ≤ 6) (hd : isD n 1 false C ex) (h : (blen C : Int) < fp n) : packS n 1 sg false C ex = C + (if sg then 2 ^ (fp n - 1 + fx n).toNat else 0) := by
  have F := bfmt hn
  have p8 := F.p8
  rw [(packS_sum hn hd).1]
  have e1 : eS 1 n C ex = 0 := by unfold eS; rw [if_pos rfl, if_neg (by omega)]
  have e2 : packN n 1 false C = C := by
    unfold packN
    rw [if_neg (by omega), Nat.add_zero, Nat.mod_eq_of_lt]
    exact blen_lt.1 (by omega)
  rw [e1, e2]; simp
theorem packS_c1n {n : Int} {sg : Bool} {C : Nat} {ex : Int} (hn : 1 ≤ n ∧ n ≤ 6) (hd : isD n 1 false C ex) (h : (blen C : Int) = fp n) : packS n 1 sg false C ex = C % 2 ^ (fp n - 1).toNat + (ex - (2 - fe n - fp n) + 1).toNat * 2 ^ (fp n - 1).toNat + (if sg then 2 ^ (fp n - 1 + fx n).toNat else 0) := by
  rw [(packS_sum hn hd).1]
  have e1 : eS 1 n C ex = ex - (2 - fe n - fp n) + 1 := by unfold eS; rw [if_pos rfl, if_pos h]
  have e2 : packN n 1 false C = C % 2 ^ (fp n - 1).toNat := by
    unfold packN
    rw [if_neg (by omega), Nat.add_zero]
  rw [e1, e2]
theorem eS_hi {n cl : Int} {C : Nat} {ex : Int} (h : cl ≠ 1) : (eS cl n C ex).toNat = 2 ^ (fx n).toNat - 1 := by
  unfold eS
  rw [if_neg h]
  have hee : (2 : Int) ^ (fx n).toNat = ((2 ^ (fx n).toNat : Nat) : Int) := by simp
  rw [hee]; omega
theorem packS_c2 {n : Int} {sg : Bool} {C : Nat} {ex : Int} (hn : 1 ≤ n ∧ n ≤ 6) (hd : isD n 2 false C ex) : packS n 2 sg false C ex = (2 ^ (fx n).toNat - 1) * 2 ^ (fp n - 1).toNat + (if sg then 2 ^ (fp n - 1 + fx n).toNat else 0) := by
  rw [(packS_sum hn hd).1, eS_hi (by omega)]
  have h0 : C = 0 := by
    rcases hd with ⟨h1, _⟩ | ⟨_, _, h2, _⟩ | ⟨h1, _⟩
    · omega
    · exact blen_zero.1 h2
    · omega
  have e2 : packN n 2 false C = 0 := by
    unfold packN
    rw [if_neg (by omega), h0, Nat.zero_mod]
  rw [e2]; simp
theorem packS_c3 {n : Int} {sg si : Bool} {C : Nat} {ex : Int} (hn : 1 ≤ n ∧ n ≤ 6) (hd : isD n 3 si C ex) : packS n 3 sg si C ex = C + (if si = false then 2 ^ (fp n - 2).toNat else 0) + (2 ^ (fx n).toNat - 1) * 2 ^ (fp n - 1).toNat + (if sg then 2 ^ (fp n - 1 + fx n).toNat else 0) ∧ C < 2 ^ (fp n - 1).toNat := by
  rw [(packS_sum hn hd).1, eS_hi (by omega)]
  have F := bfmt hn
  have p8 := F.p8
  have hl := F.l
  have hC : C < 2 ^ (fp n - 1).toNat := by
    rcases hd with ⟨h1, _⟩ | ⟨h1, _⟩ | ⟨_, _, h2, _⟩
    · omega
    · omega
    · exact blen_lt.1 (by omega)
  have e2 : packN n 3 si C = C + (if si = false then 2 ^ (fp n - 2).toNat else 0) := by
    unfold packN
    rw [Nat.mod_eq_of_lt hC]
    simp
  rw [e2]
  exact ⟨rfl, hC⟩
/-- All sums are below 2^256. -/
theorem packS_lt {n cl : Int} {sg si : Bool} {C : Nat} {ex : Int} (hn : 1 ≤ n ∧ n ≤ 6) (hd : isD n cl si C ex) : packS n cl sg si C ex < 2 ^ 256 := by
  obtain ⟨h1, h2, h3⟩ := packS_sum (sg := sg) hn hd
  rw [h1]
  split <;> omega
/-! Rounding, as the reference has it. -/
theorem cmp_half {r y : Nat} (h : r ≤ y) : cmpI (r * 2) y = cmpI r (y - r) := by
  rcases Nat.lt_trichotomy (r * 2) y with h1 | h1 | h1
  · rw [cmpI_lt h1, cmpI_lt (show r < y - r by omega)]
  · rw [cmpI_eq h1, cmpI_eq (show r = y - r by omega)]
  · rw [cmpI_gt h1, cmpI_gt (show y - r < r by omega)]
theorem cmpI_mul {x y m : Nat} (hm : 0 < m) : cmpI (x * m) (y * m) = cmpI x y := by
  unfold cmpI
  by_cases h1 : x < y
  · rw [if_pos h1, if_pos (Nat.mul_lt_mul_of_pos_right h1 hm)]
  · rw [if_neg h1, if_neg (by have := Nat.mul_le_mul_right m (Nat.le_of_not_lt h1); omega)]
    by_cases h2 : x = y
    · subst h2; rw [if_pos rfl, if_pos rfl]
    · rw [if_neg h2, if_neg (fun h => h2 (Nat.eq_of_mul_eq_mul_right hm h))]
theorem divS_mul {d : Int} {s : Bool} {x y m : Nat} (hm : 0 < m) : divS d s (x * m) (y * m) = divS d s x y := by
  unfold divS
  rw [Nat.mul_div_mul_right _ _ hm, Nat.mul_mod_mul_right, ← Nat.sub_mul, cmpI_mul hm]
  by_cases h : x % y = 0
  · rw [if_pos h, if_pos (by rw [h, Nat.zero_mul])]
  · rw [if_neg h, if_neg (fun h2 => h (by rcases Nat.mul_eq_zero.1 h2 with h3 | h3 <;> omega))]
/-- Two shifts are one. -/
theorem shift_two (E k : Int) : ∃ m : Nat, E.toNat + k.toNat = (E + k).toNat + m ∧ (-E).toNat + (-k).toNat = (-(E + k)).toNat + m := by
  refine ⟨E.toNat + k.toNat - (E + k).toNat, ?_, ?_⟩ <;> omega
theorem divS_two {d : Int} {s : Bool} {x y : Nat} {E k : Int} : divS d s (x * 2 ^ E.toNat * 2 ^ k.toNat) (y * 2 ^ (-E).toNat * 2 ^ (-k).toNat) = divS d s (x * 2 ^ (E + k).toNat) (y * 2 ^ (-(E + k)).toNat) := by
  obtain ⟨m, h1, h2⟩ := shift_two E k
  rw [Nat.mul_assoc, ← Nat.pow_add, h1, Nat.mul_assoc, ← Nat.pow_add, h2, Nat.pow_add, Nat.pow_add, ← Nat.mul_assoc, ← Nat.mul_assoc]
  exact divS_mul (Nat.two_pow_pos m)
/-- What the reference's exponent answers: its scale stops at 200000. -/
def lowR (x y : Nat) : Int :=
  if x * 2 ^ (min (max (-((blen x : Int) - (blen y : Int))) (-200000)) 200000).toNat < y * 2 ^ (-(min (max (-((blen x : Int) - (blen y : Int))) (-200000)) 200000)).toNat then (blen x : Int) - (blen y : Int) - 1 else (blen x : Int) - (blen y : Int)
theorem lowR_bound (x y : Nat) : (blen x : Int) - (blen y : Int) - 1 ≤ lowR x y ∧ lowR x y ≤ (blen x : Int) - (blen y : Int) := by
  unfold lowR; split <;> omega
theorem lowR_eq {x y : Nat} (h : -200000 ≤ (blen x : Int) - (blen y : Int) ∧ (blen x : Int) - (blen y : Int) ≤ 200000) : lowR x y = lowS x y := by
  unfold lowR lowS
  rw [show min (max (-((blen x : Int) - (blen y : Int))) (-200000)) 200000 = -((blen x : Int) - (blen y : Int)) by omega]
  rw [show -(-((blen x : Int) - (blen y : Int))) = (blen x : Int) - (blen y : Int) by omega]
theorem lowS_shift {x y : Nat} (hx : 0 < x) (hy : 0 < y) (E : Int) : lowS (x * 2 ^ E.toNat) (y * 2 ^ (-E).toNat) = lowS x y + E := by
  unfold lowS
  rw [blen_mul (by omega), blen_mul (by omega)]
  have e : ((blen x + E.toNat : Nat) : Int) - ((blen y + (-E).toNat : Nat) : Int) = (blen x : Int) - (blen y : Int) + E := by omega
  rw [e]
  obtain ⟨m, h1, h2⟩ := shift_two E (-((blen x : Int) - (blen y : Int) + E))
  rw [show E + -((blen x : Int) - (blen y : Int) + E) = -((blen x : Int) - (blen y : Int)) by omega] at h1 h2
  rw [show -(-((blen x : Int) - (blen y : Int) + E)) = (blen x : Int) - (blen y : Int) + E by omega] at h2
  rw [show -(-((blen x : Int) - (blen y : Int))) = (blen x : Int) - (blen y : Int) by omega] at h2
  rw [Nat.mul_assoc, ← Nat.pow_add, h1, Nat.mul_assoc, ← Nat.pow_add, h2, Nat.pow_add, Nat.pow_add, ← Nat.mul_assoc, ← Nat.mul_assoc]
  by_cases h : x * 2 ^ (-((blen x : Int) - (blen y : Int))).toNat < y * 2 ^ ((blen x : Int) - (blen y : Int)).toNat
  · rw [if_pos h, if_pos (Nat.mul_lt_mul_of_pos_right h (Nat.two_pow_pos m))]; omega
  · rw [if_neg h, if_neg (by have := Nat.mul_le_mul_right (2 ^ m) (Nat.le_of_not_lt h); omega)]
end Go.AM.LN
set_option maxRecDepth 20000
namespace Go.AM.LN
open Go
/-- An exponent as the reference's Scale takes it. -/
def scE (c e : Int) : Int := min (max e (-(if c = 10 then 60000 else 200000))) (if c = 10 then 60000 else 200000)
theorem scE2 (e : Int) : scE 2 e = min (max e (-200000)) 200000 := rfl
theorem scE10 (e : Int) : scE 10 e = min (max e (-60000)) 60000 := rfl
theorem scE_b (c e : Int) : -200000 ≤ scE c e ∧ scE c e ≤ 200000 := by unfold scE; split <;> omega
theorem blen_val {a : List Int} (la : lim a) : blen (val a) ≤ 64 * a.length := blen_lt.2 (lt_pow_of_len la (Nat.le_refl _))
theorem lowR_lt {x y : Nat} (h : cmpI (x * 2 ^ (scE 2 (-((blen x : Int) - blen y))).toNat) (y * 2 ^ (-scE 2 (-((blen x : Int) - blen y))).toNat) < 0) : lowR x y = (blen x : Int) - blen y - 1 := by
  unfold lowR; rw [← scE2]; exact if_pos (cmpI_neg.1 h)
theorem lowR_ge {x y : Nat} (h : 0 ≤ cmpI (x * 2 ^ (scE 2 (-((blen x : Int) - blen y))).toNat) (y * 2 ^ (-scE 2 (-((blen x : Int) - blen y))).toNat)) : lowR x y = (blen x : Int) - blen y := by
  unfold lowR; rw [← scE2]; exact if_neg (fun h2 => by rw [cmpI_lt h2] at h; omega)
theorem ov_t {n d : Int} {s : Bool} (h : infS d s = true) : ovV n d s = packS n 2 s false 0 0 := if_pos h
theorem ov_f {n d : Int} {s : Bool} (h : infS d s = false) : ovV n d s = packS n 1 s false (2 ^ (fp n).toNat - 1) (fe n + 1 - fp n) := if_neg (by rw [h]; exact Bool.false_ne_true)
theorem pow_zero_of {c : Nat} {k : Int} (h : k ≤ 0) : c ^ k.toNat = 1 := by rw [show k.toNat = 0 by omega, Nat.pow_zero]
theorem odd_val {a : List Int} (la : lim a) : val a % 2 = (a.getD 0 0).toNat % 2 := mod_word (s := 1) la (by omega)
theorem odd_rem {a : List Int} (la : lim a) : ((a.getD 0 0).tmod 2 == 1) = (val a % 2 == 1) := by
  have h := lim_get la (i := 0)
  rw [odd_val la, Int.tmod_eq_emod_of_nonneg h.1, Bool.eq_iff_iff]
  simp only [beq_iff_eq]
  omega
theorem far_inf {d : Int} {s : Bool} (h : 0 ≤ d ∧ d ≤ 4) : (if d = 2 then false else if d = 3 then !s else if d = 4 then s else true) = infS d s := by
  have hd : d = 0 ∨ d = 1 ∨ d = 2 ∨ d = 3 ∨ d = 4 := by omega
  rcases hd with rfl | rfl | rfl | rfl | rfl <;> rfl
theorem len_b {x k : Nat} (h : blen x ≤ k) : (limbs x).length ≤ (k + 63) / 64 := by rw [len_limbs]; omega
theorem blen_pow_le {x k : Nat} : blen (x * 2 ^ k) ≤ blen x + k := by
  by_cases h : x = 0
  · subst h; rw [Nat.zero_mul]; exact Nat.le_trans (Nat.le_of_eq rfl) (Nat.zero_le _)
  · rw [blen_mul h]; exact Nat.le_refl _
theorem blen_divS {d : Int} {s : Bool} {x y : Nat} : blen (divS d s x y).1 ≤ blen x + 1 := by
  refine blen_lt.2 ?_
  have h1 := (@divS_le d s x y).2
  have h2 : x / y ≤ x := Nat.div_le_self _ _
  have h3 : x < 2 ^ blen x := blen_lt.1 (Nat.le_refl _)
  have h4 := Nat.two_pow_pos (blen x)
  rw [Nat.pow_succ]
  omega
set_option maxHeartbeats 4000000 in
/-- The ways of the reference's rounding. -/
theorem ref_way {n d : Int} {s : Bool} {x y : Nat} {e : Int} (hn : 1 ≤ n ∧ n ≤ 6) (hx : 0 < x) (hy : 0 < y) (bx : blen x ≤ 51200) (b_y : blen y ≤ 51200) {E L Q K : Int}
    (hE : E = scE 2 e) (hL : L = lowR (x * 2 ^ E.toNat) (y * 2 ^ (-E).toNat)) (hQ : Q = max (2 - fe n - fp n) (L - fp n + 1)) (hK : K = scE 2 (-Q)) :
    (fe n + 1 - fp n < Q ∧ Q ≤ 500000 ∧ fe n + 1 - fp n < rq n x y e) ∨
    (Q = rq n x y e ∧ -20000 ≤ Q ∧ Q ≤ 20000 ∧ divS d s (x * 2 ^ E.toNat * 2 ^ K.toNat) (y * 2 ^ (-E).toNat * 2 ^ (-K).toNat) = rdiv n d s x y e ∧ (L < 2 - fe n - fp n + fp n - 1 ↔ rlow x y e < 2 - fe n - fp n + fp n - 1) ∧
      ((rq n x y e = rlow x y e - fp n + 1 ∧ 2 ^ (fp n - 1).toNat ≤ (rdiv n d s x y e).1 ∧ (rdiv n d s x y e).1 ≤ 2 ^ (fp n).toNat) ∨ (rq n x y e = 2 - fe n - fp n ∧ (rdiv n d s x y e).1 ≤ 2 ^ (fp n - 1).toNat))) := by
  obtain ⟨F1, F2, F3, F4, F5, F6, F7, F8, F9, F10, F11⟩ := bfmt hn
  rw [scE2] at hE hK
  obtain ⟨bl1, bl2⟩ := lowS_bound hx hy
  obtain ⟨br1, br2⟩ := lowR_bound (x * 2 ^ E.toNat) (y * 2 ^ (-E).toNat)
  have hx1 : 1 ≤ blen x := by have := @blen_zero x; omega
  have hy1 : 1 ≤ blen y := by have := @blen_zero y; omega
  have hs := lowS_shift hx hy E
  have he := @lowR_eq (x * 2 ^ E.toNat) (y * 2 ^ (-E).toNat)
  rw [blen_mul (by omega), blen_mul (by omega)] at he br1 br2
  rw [hs] at he
  rw [← hL] at he br1 br2
  have hrl : rlow x y e = lowS x y + e := rfl
  have hrlE : rlow x y E = lowS x y + E := rfl
  have rqe := @rq_b n x y e
  have rqE := @rq_b n x y E
  generalize lowS x y = l at *
  have hLE : (-200000 ≤ (blen x : Int) - blen y + E ∧ (blen x : Int) - blen y + E ≤ 200000) → L = l + E := fun h => he (by omega)
  clear he hs
  have hway : (fe n + 1 - fp n + fp n ≤ l + e) ∨ (l + e < 2 - fe n - fp n - 1) ∨ (2 - fe n - fp n - 1 ≤ l + e ∧ l + e < fe n + 1 - fp n + fp n) := by omega
  rcases hway with hA | hB | ⟨hC1, hC2⟩
  · left
    refine ⟨?_, by omega, by omega⟩
    by_cases h2 : (blen x : Int) - blen y + E ≤ 200000
    · have := hLE (by omega)
      omega
    · omega
  · right
    have hT := rdiv_tiny (n := n) (d := d) (s := s) (e := e) hx hy (by omega) (by omega)
    have hLs : L < 2 - fe n - fp n - 1 := by
      by_cases h2 : -200000 ≤ (blen x : Int) - blen y + E
      · have := hLE (by omega)
        omega
      · omega
    have hQ' : Q = 2 - fe n - fp n := by omega
    have hK' : K = -Q := by omega
    have hT' := rdiv_tiny (n := n) (d := d) (s := s) (e := E) hx hy (by omega) (by omega)
    refine ⟨by omega, by omega, by omega, ?_, by omega, .inr ⟨hT.1, ?_⟩⟩
    · rw [divS_two, hT.2, ← hT'.2]
      unfold rdiv
      rw [hT'.1, hK', hQ', ← Int.sub_eq_add_neg]
    · rw [hT.2]
      have h1 := (@divS_le d s 1 4).2
      exact Nat.le_trans h1 Nat.one_le_two_pow
  · right
    have hEe : E = e := by omega
    subst hEe
    have hLl := hLE (by omega)
    clear hLE rqE hrlE hE
    have hQ' : Q = rq n x y E := by rw [hQ]; unfold rq; rw [hrl, hLl]
    have hQ1 : -20000 ≤ Q ∧ Q ≤ 20000 := by omega
    have hK' : K = -Q := by omega
    refine ⟨hQ', hQ1.1, hQ1.2, ?_, by omega, rdiv_ok hn hx hy (by omega)⟩
    rw [divS_two]
    unfold rdiv
    rw [hK', ← hQ', ← Int.sub_eq_add_neg]
end Go.AM.LN
set_option maxRecDepth 20000
namespace Go.Proofs.AMT
open Go.AM Go.AM.LN
attribute [local congr] bindO_congr bindS_congr bindG_congr awpOps_congr aOne_congr awp_congr aCond_congr awpD_congr dOne_congr keysB_congr nOne_congr thenP_congr blockP_congr Chk_congr Brk_congr
noncomputable def s15 : CSpec := fun ds => match ds with
  | [.v (.int .i64 n), .v (.int .i64 d), .v (.int .i64 m)] => some (-9223372036854775808 ≤ m ∧ m ≤ 9223372036854775807, .many [.v (.agg #[.int .u64 (w4 (roundV n d (decide (m < 0)) m.natAbs 1 0) 0), .int .u64 (w4 (roundV n d (decide (m < 0)) m.natAbs 1 0) 1), .int .u64 (w4 (roundV n d (decide (m < 0)) m.natAbs 1 0) 2), .int .u64 (w4 (roundV n d (decide (m < 0)) m.natAbs 1 0) 3)]), .v (.int .i64 (roundF n d (decide (m < 0)) m.natAbs 1 0)), .v (.int .i64 (roundE n d))])
  | _ => none
theorem s15_eq (n : Int) (d : Int) (m : Int) : norm s15 [.v (.int .i64 n), .v (.int .i64 d), .v (.int .i64 m)] = some (-9223372036854775808 ≤ m ∧ m ≤ 9223372036854775807, .many [.v (.agg #[.int .u64 (w4 (roundV n d (decide (m < 0)) m.natAbs 1 0) 0), .int .u64 (w4 (roundV n d (decide (m < 0)) m.natAbs 1 0) 1), .int .u64 (w4 (roundV n d (decide (m < 0)) m.natAbs 1 0) 2), .int .u64 (w4 (roundV n d (decide (m < 0)) m.natAbs 1 0) 3)]), .v (.int .i64 (roundF n d (decide (m < 0)) m.natAbs 1 0)), .v (.int .i64 (roundE n d))]) := rfl
noncomputable def G15 : Gam := [(27, .body, norm s27), (28, .body, norm s28)]
theorem G15_ok : GamOk Try.prog G15 := gamOk_cons sound_27 (gamOk_cons sound_28 gamOk_nil)
theorem k15_27 : lk G15 27 = some (.body, norm s27) := rfl
theorem k15_28 : lk G15 28 = some (.body, norm s28) := rfl
set_option maxHeartbeats 20000000 in
theorem w15 (n : Int) (d : Int) (m : Int) (hp : -9223372036854775808 ≤ m ∧ m ≤ 9223372036854775807) : awp ty G15 (code Try.f15) (retP ty Try.f15.results.toList (.many [.v (.agg #[.int .u64 (w4 (roundV n d (decide (m < 0)) m.natAbs 1 0) 0), .int .u64 (w4 (roundV n d (decide (m < 0)) m.natAbs 1 0) 1), .int .u64 (w4 (roundV n d (decide (m < 0)) m.natAbs 1 0) 2), .int .u64 (w4 (roundV n d (decide (m < 0)) m.natAbs 1 0) 3)]), .v (.int .i64 (roundF n d (decide (m < 0)) m.natAbs 1 0)), .v (.int .i64 (roundE n d))])) (entry 0 [.v (.int .i64 n), .v (.int .i64 d), .v (.int .i64 m)]) [] := by
  unfold code
  simp only [Try.f15, Option.getD_some]
  have hmc : (m < 0 ∧ m % 18446744073709551616 = 18446744073709551616 - (m.natAbs : Int)) ∨ (0 ≤ m ∧ m % 18446744073709551616 = (m.natAbs : Int)) := by omega
  obtain ⟨A, hA⟩ : ∃ A, m.natAbs = A := ⟨_, rfl⟩
  have hAl : A ≤ 9223372036854775808 := by omega
  rw [hA] at hmc
  have i1 : (1 : Int).toNat = 1 := rfl
  have hAn : ((A : Int)).toNat = A := Int.toNat_natCast A
  have lA := len_b (x := A) (k := 64) (blen_lt.2 (by omega))
  have l1 := len_b (x := 1) (k := 64) (by decide)
  have hlA : limbs A = [(A : Int)] ∨ (A = 0 ∧ limbs A = []) := by
    rcases Nat.eq_zero_or_pos A with h | h
    · exact .inr ⟨h, by rw [h]; rfl⟩
    · exact .inl (limbs_of_lt (by omega) (by omega))
  rcases hmc with ⟨hm, hmm⟩ | ⟨hm, hmm⟩
  all_goals first
    | (have gm : decide (m < 0) = true := decide_eq_true hm)
    | (have gm : decide (m < 0) = false := decide_eq_false (by omega))
  all_goals have hng : (0 - (18446744073709551616 - (A : Int))) % 18446744073709551616 = (A : Int) := by omega
  all_goals rw [gm, hA]
  all_goals repeat' (first
    | ((first
       | (with_reducible refine ops_k ?_; intro X hX)
       | (with_reducible refine opsN_k ?_; intro X hX)
       | (with_reducible show awp _ _ _ _ (keepL _ _) _)
       | with_reducible refine awp_cond_k ?_
       | (with_reducible refine Brk_i ?_ ?_ <;> intro hb <;> (try simp only [hb]) <;> have hq := hb <;> try simp only [decide_eq_true_eq, decide_eq_false_iff_not, gt_iff_lt, ge_iff_le, Int.not_lt, Int.not_le, beq_iff_eq, beq_eq_false_iff_ne, Bool.not_eq_true', Bool.not_eq_false', Bool.and_eq_true, Bool.or_eq_true, Bool.and_eq_false_imp, Bool.or_eq_false_iff, ne_eq, Classical.not_not] at hq)
       | with_reducible refine retP_ret_i ?_
       | with_reducible refine retP_normal_i ?_
       | (with_reducible (show bindG _ _ _ _ _); simp only [hall])) <;> try simp only [Go.AM.S1, Go.AM.S2, Go.AM.S3, Go.AM.S4, Go.AM.S5, Go.AM.S6, Go.AM.S7, Go.AM.S8, Go.AM.S9, Nat.reduceAdd, Nat.reduceMul, Nat.reduceSub, ↓reduceIte, Nat.reduceEqDiff, Nat.reduceLT, Nat.reduceLeDiff, reduceCtorEq, Int.reduceBEq, Int.reduceBNe, Nat.reduceBEq, Int.reduceEq, Int.reduceToNat, Int.reduceLE, Int.reduceLT, Nat.reduceDiv, Int.reduceAdd, Int.reduceSub, Int.reduceMul, Int.reduceNeg, Int.reduceGT, Int.reduceGE, Nat.reduceMod, k15_27, s27_eq, s27_nil1, s27_nil2, s27_nil3, k15_28, s28_eq, ty_2, ty_3, ty_4, ty_26, ty_28, ty_42, gm, hmm, hng, hAn, i1, val_limbs])
    | (with_reducible refine hX _ _ ?_; clear hX X)
    | (with_reducible refine ops_nil_i ?_; try clear hall all)
    | (with_reducible refine opsN_nil_i ?_; try clear hall all)
    | (with_reducible refine hK _ _ ?_; clear hK K)
    | with_reducible refine thenP_normal_i ?_
    | (with_reducible refine zzr4 _ _ ?_; try clear zzr4 Kzzr4)
    | (with_reducible refine zzsr2 _ _ ?_; try clear zzsr2 Kzzsr2)
    | (with_reducible refine zzr2 _ _ ?_; try clear zzr2 Kzzr2)
    | (with_reducible refine zzr1 _ _ ?_; try clear zzr1 Kzzr1)
    | (with_reducible refine zzr0 _ _ ?_; try clear zzr0 Kzzr0)
    | (with_reducible refine awp_seq_l (a := .region 4 _ _) [6, 7, 8] ?_; intro Kzzr4 zzr4)
    | (with_reducible refine awp_seq_l (a := .seq (.region 2 _ _) _) [0, 1, 2, 6, 9] ?_; intro Kzzsr2 zzsr2)
    | (with_reducible refine awp_seq_l (a := .region 2 _ _) [0, 1, 2, 6, 9, 13] ?_; intro Kzzr2 zzr2)
    | (with_reducible refine awp_seq_l (a := .region 1 _ _) [0, 1, 2, 6, 9] ?_; intro Kzzr1 zzr1)
    | (with_reducible refine awp_seq_l (a := .region 0 _ _) [0, 1, 2, 6] ?_; intro Kzzr0 zzr0)
    | (with_reducible refine awp_seq_k ?_; intro K hK)
    | (with_reducible refine awp_region_a ?_; intro all hall K hK)
    | (with_reducible refine awp_draw_n ?_ ?_; kernel_rfl; intro all hall K hK)
    | (with_reducible refine Chk_i ?_ ?_)
    | (with_reducible refine keysC_i ?_; kernel_rfl)
    | (with_reducible first | refine awp_block_i ?_ | refine awp_skip_i ?_ | refine awp_ret_i ?_ | refine awp_exit_i ?_ | refine thenP_ret_i ?_ | refine thenP_exit_i ?_ | refine lpP_ret_i ?_ | refine lpP_exit_i ?_ | refine unrP_succ_i ?_ | refine unrP_ret_i ?_ | refine unrP_exit_i ?_ | refine blockP_normal_i ?_ | refine blockP_ret_i ?_)
    | (with_reducible refine blockP_exit_i ?_; simp only [↓reduceIte, Nat.reduceEqDiff])
    | with_reducible refine lpP_normal_i ?_)
  all_goals (try clear zzr0; try clear Kzzr0)
  all_goals (try clear zzr1; try clear Kzzr1)
  all_goals (try clear zzr2; try clear Kzzr2)
  all_goals (try clear zzsr2; try clear Kzzsr2)
  all_goals (try clear zzr4; try clear Kzzr4)
  all_goals (try simp only [inR])
  all_goals first
    | omega
    | exact ⟨⟨lim_limbs _, by omega⟩, ⟨lim_limbs _, by omega⟩, by rw [sz_limbs]; omega, by rw [sz_limbs]; omega⟩
    | skip
theorem sound_15 : Sound Try.prog 15 .body (norm s15) := by
  refine sound_norm (sound_body Try.func15 (show Try.f15.body = some (code Try.f15) from rfl) (by kernel_rfl) tysOk G15_ok (drawOk_ok (by kernel_rfl) tysOk G15_ok) (by kernel_rfl) fun ds p r hs hp => ?_)
  unfold s15 at hs
  split at hs
  · cases hs; exact ⟨Nat.le_of_ble_eq_true (by kernel_rfl), w15 _ _ _ hp⟩
  · cases hs
end Go.Proofs.AMT
set_option maxRecDepth 20000
namespace Go.Proofs.AMT
open Go.AM Go.AM.LN
attribute [local congr] bindO_congr bindS_congr bindG_congr awpOps_congr aOne_congr awp_congr aCond_congr awpD_congr dOne_congr keysB_congr nOne_congr thenP_congr blockP_congr Chk_congr Brk_congr
noncomputable def s29 : CSpec := fun ds => match ds with
  | [.v (.int .i64 n)] => some (True, .one (.v (.bool (decide (n ≥ 1) && decide (n ≤ 6)))))
  | _ => none
theorem s29_eq (n : Int) : norm s29 [.v (.int .i64 n)] = some (True, .one (.v (.bool (decide (n ≥ 1) && decide (n ≤ 6))))) := rfl
noncomputable def G29 : Gam := []
theorem G29_ok : GamOk Try.prog G29 := gamOk_nil
set_option maxHeartbeats 20000000 in
theorem w29 (n : Int) (hp : True) : awp ty G29 (code Try.f29) (retP ty Try.f29.results.toList (.one (.v (.bool (decide (n ≥ 1) && decide (n ≤ 6)))))) (entry 0 [.v (.int .i64 n)]) [] := by
  unfold code
  simp only [Try.f29, Option.getD_some]
  all_goals repeat' (first
    | ((first
       | (with_reducible refine ops_k ?_; intro X hX)
       | (with_reducible refine opsN_k ?_; intro X hX)
       | (with_reducible show awp _ _ _ _ (keepL _ _) _)
       | with_reducible refine awp_cond_k ?_
       | (with_reducible refine Brk_i ?_ ?_ <;> intro hb <;> (try simp only [hb]) <;> have hq := hb <;> try simp only [decide_eq_true_eq, decide_eq_false_iff_not, gt_iff_lt, ge_iff_le, Int.not_lt, Int.not_le, beq_iff_eq, beq_eq_false_iff_ne, Bool.not_eq_true', Bool.not_eq_false', Bool.and_eq_true, Bool.or_eq_true, Bool.and_eq_false_imp, Bool.or_eq_false_iff, ne_eq, Classical.not_not] at hq)
       | with_reducible refine retP_ret_i ?_
       | with_reducible refine retP_normal_i ?_
       | (with_reducible (show bindG _ _ _ _ _); simp only [hall])) <;> try simp only [Go.AM.S1, Go.AM.S2, Go.AM.S3, Go.AM.S4, Go.AM.S5, Go.AM.S6, Go.AM.S7, Go.AM.S8, Go.AM.S9, Nat.reduceAdd, Nat.reduceMul, Nat.reduceSub, ↓reduceIte, Nat.reduceEqDiff, Nat.reduceLT, Nat.reduceLeDiff, reduceCtorEq, Int.reduceBEq, Int.reduceBNe, Nat.reduceBEq, Int.reduceEq, Int.reduceToNat, Int.reduceLE, Int.reduceLT, Nat.reduceDiv, Int.reduceAdd, Int.reduceSub, Int.reduceMul, Int.reduceNeg, Int.reduceGT, Int.reduceGE, Nat.reduceMod, ty_3])
    | (with_reducible refine hX _ _ ?_; clear hX X)
    | (with_reducible refine ops_nil_i ?_; try clear hall all)
    | (with_reducible refine opsN_nil_i ?_; try clear hall all)
    | (with_reducible refine hK _ _ ?_; clear hK K)
    | with_reducible refine thenP_normal_i ?_
    | (with_reducible refine zzr1 _ _ ?_; try clear zzr1 Kzzr1)
    | (with_reducible refine zzr0 _ _ ?_; try clear zzr0 Kzzr0)
    | (with_reducible refine awp_seq_l (a := .region 1 _ _) [2] ?_; intro Kzzr1 zzr1)
    | (with_reducible refine awp_seq_l (a := .region 0 _ _) [0] ?_; intro Kzzr0 zzr0)
    | (with_reducible refine awp_seq_k ?_; intro K hK)
    | (with_reducible refine awp_region_a ?_; intro all hall K hK)
    | (with_reducible refine awp_draw_n ?_ ?_; kernel_rfl; intro all hall K hK)
    | (with_reducible refine Chk_i ?_ ?_)
    | (with_reducible refine keysC_i ?_; kernel_rfl)
    | (with_reducible first | refine awp_block_i ?_ | refine awp_skip_i ?_ | refine awp_ret_i ?_ | refine awp_exit_i ?_ | refine thenP_ret_i ?_ | refine thenP_exit_i ?_ | refine lpP_ret_i ?_ | refine lpP_exit_i ?_ | refine unrP_succ_i ?_ | refine unrP_ret_i ?_ | refine unrP_exit_i ?_ | refine blockP_normal_i ?_ | refine blockP_ret_i ?_)
    | (with_reducible refine blockP_exit_i ?_; simp only [↓reduceIte, Nat.reduceEqDiff])
    | with_reducible refine lpP_normal_i ?_)
  all_goals (try clear zzr0; try clear Kzzr0)
  all_goals (try clear zzr1; try clear Kzzr1)
  all_goals (first | rfl | (simp [hb]; done) | skip)
theorem sound_29 : Sound Try.prog 29 .body (norm s29) := by
  refine sound_norm (sound_body Try.func29 (show Try.f29.body = some (code Try.f29) from rfl) (by kernel_rfl) tysOk G29_ok (drawOk_ok (by kernel_rfl) tysOk G29_ok) (by kernel_rfl) fun ds p r hs hp => ?_)
  unfold s29 at hs
  split at hs
  · cases hs; exact ⟨Nat.le_of_ble_eq_true (by kernel_rfl), w29 _ hp⟩
  · cases hs
end Go.Proofs.AMT
set_option maxRecDepth 20000
namespace Go.Proofs.AMT
open Go.AM Go.AM.LN
attribute [local congr] bindO_congr bindS_congr bindG_congr awpOps_congr aOne_congr awp_congr aCond_congr awpD_congr dOne_congr keysB_congr nOne_congr thenP_congr blockP_congr Chk_congr Brk_congr
noncomputable def s30 : CSpec := fun ds => match ds with
  | [.v (.int .i64 d)] => some (True, .one (.v (.bool (decide (d ≥ 0) && decide (d ≤ 4)))))
  | _ => none
theorem s30_eq (d : Int) : norm s30 [.v (.int .i64 d)] = some (True, .one (.v (.bool (decide (d ≥ 0) && decide (d ≤ 4))))) := rfl
noncomputable def G30 : Gam := []
theorem G30_ok : GamOk Try.prog G30 := gamOk_nil
set_option maxHeartbeats 20000000 in
theorem w30 (d : Int) (hp : True) : awp ty G30 (code Try.f30) (retP ty Try.f30.results.toList (.one (.v (.bool (decide (d ≥ 0) && decide (d ≤ 4)))))) (entry 0 [.v (.int .i64 d)]) [] := by
  unfold code
  simp only [Try.f30, Option.getD_some]
  all_goals repeat' (first
    | ((first
       | (with_reducible refine ops_k ?_; intro X hX)
       | (with_reducible refine opsN_k ?_; intro X hX)
       | (with_reducible show awp _ _ _ _ (keepL _ _) _)
       | with_reducible refine awp_cond_k ?_
       | (with_reducible refine Brk_i ?_ ?_ <;> intro hb <;> (try simp only [hb]) <;> have hq := hb <;> try simp only [decide_eq_true_eq, decide_eq_false_iff_not, gt_iff_lt, ge_iff_le, Int.not_lt, Int.not_le, beq_iff_eq, beq_eq_false_iff_ne, Bool.not_eq_true', Bool.not_eq_false', Bool.and_eq_true, Bool.or_eq_true, Bool.and_eq_false_imp, Bool.or_eq_false_iff, ne_eq, Classical.not_not] at hq)
       | with_reducible refine retP_ret_i ?_
       | with_reducible refine retP_normal_i ?_
       | (with_reducible (show bindG _ _ _ _ _); simp only [hall])) <;> try simp only [Go.AM.S1, Go.AM.S2, Go.AM.S3, Go.AM.S4, Go.AM.S5, Go.AM.S6, Go.AM.S7, Go.AM.S8, Go.AM.S9, Nat.reduceAdd, Nat.reduceMul, Nat.reduceSub, ↓reduceIte, Nat.reduceEqDiff, Nat.reduceLT, Nat.reduceLeDiff, reduceCtorEq, Int.reduceBEq, Int.reduceBNe, Nat.reduceBEq, Int.reduceEq, Int.reduceToNat, Int.reduceLE, Int.reduceLT, Nat.reduceDiv, Int.reduceAdd, Int.reduceSub, Int.reduceMul, Int.reduceNeg, Int.reduceGT, Int.reduceGE, Nat.reduceMod, ty_3])
    | (with_reducible refine hX _ _ ?_; clear hX X)
    | (with_reducible refine ops_nil_i ?_; try clear hall all)
    | (with_reducible refine opsN_nil_i ?_; try clear hall all)
    | (with_reducible refine hK _ _ ?_; clear hK K)
    | with_reducible refine thenP_normal_i ?_
    | (with_reducible refine zzr1 _ _ ?_; try clear zzr1 Kzzr1)
    | (with_reducible refine zzr0 _ _ ?_; try clear zzr0 Kzzr0)
    | (with_reducible refine awp_seq_l (a := .region 1 _ _) [2] ?_; intro Kzzr1 zzr1)
    | (with_reducible refine awp_seq_l (a := .region 0 _ _) [0] ?_; intro Kzzr0 zzr0)
    | (with_reducible refine awp_seq_k ?_; intro K hK)
    | (with_reducible refine awp_region_a ?_; intro all hall K hK)
    | (with_reducible refine awp_draw_n ?_ ?_; kernel_rfl; intro all hall K hK)
    | (with_reducible refine Chk_i ?_ ?_)
    | (with_reducible refine keysC_i ?_; kernel_rfl)
    | (with_reducible first | refine awp_block_i ?_ | refine awp_skip_i ?_ | refine awp_ret_i ?_ | refine awp_exit_i ?_ | refine thenP_ret_i ?_ | refine thenP_exit_i ?_ | refine lpP_ret_i ?_ | refine lpP_exit_i ?_ | refine unrP_succ_i ?_ | refine unrP_ret_i ?_ | refine unrP_exit_i ?_ | refine blockP_normal_i ?_ | refine blockP_ret_i ?_)
    | (with_reducible refine blockP_exit_i ?_; simp only [↓reduceIte, Nat.reduceEqDiff])
    | with_reducible refine lpP_normal_i ?_)
  all_goals (try clear zzr0; try clear Kzzr0)
  all_goals (try clear zzr1; try clear Kzzr1)
  all_goals (first | rfl | (simp [hb]; done) | skip)
theorem sound_30 : Sound Try.prog 30 .body (norm s30) := by
  refine sound_norm (sound_body Try.func30 (show Try.f30.body = some (code Try.f30) from rfl) (by kernel_rfl) tysOk G30_ok (drawOk_ok (by kernel_rfl) tysOk G30_ok) (by kernel_rfl) fun ds p r hs hp => ?_)
  unfold s30 at hs
  split at hs
  · cases hs; exact ⟨Nat.le_of_ble_eq_true (by kernel_rfl), w30 _ hp⟩
  · cases hs
end Go.Proofs.AMT
set_option maxRecDepth 20000
namespace Go.Proofs.AMT
open Go.AM Go.AM.LN
attribute [local congr] bindO_congr bindS_congr bindG_congr awpOps_congr aOne_congr awp_congr aCond_congr awpD_congr dOne_congr keysB_congr nOne_congr thenP_congr blockP_congr Chk_congr Brk_congr
noncomputable def s31 : CSpec := fun ds => match ds with
  | [.sl .u64 a] => some (a.length ≤ 100000000, .one (.v (.int .i64 (sz a))))
  | _ => none
theorem s31_eq (a : List Int) : norm s31 [.sl .u64 a] = some (a.length ≤ 100000000, .one (.v (.int .i64 (sz a)))) := rfl
theorem s31_nil1  : norm s31 [.v (.slice none 0 0)] = some (([] : List Int).length ≤ 100000000, .one (.v (.int .i64 (sz ([] : List Int))))) := rfl
noncomputable def G31 : Gam := []
theorem G31_ok : GamOk Try.prog G31 := gamOk_nil
set_option maxHeartbeats 20000000 in
theorem w31 (a : List Int) (hp : a.length ≤ 100000000) : awp ty G31 (code Try.f31) (retP ty Try.f31.results.toList (.one (.v (.int .i64 (sz a))))) (entry 0 [.sl .u64 a]) [] := by
  unfold code
  simp only [Try.f31, Option.getD_some]
  all_goals repeat' (first
    | ((first
       | (with_reducible refine ops_k ?_; intro X hX)
       | (with_reducible refine opsN_k ?_; intro X hX)
       | (with_reducible show awp _ _ _ _ (keepL _ _) _)
       | with_reducible refine awp_cond_k ?_
       | (with_reducible refine Brk_i ?_ ?_ <;> intro hb <;> (try simp only [hb]) <;> have hq := hb <;> try simp only [decide_eq_true_eq, decide_eq_false_iff_not, gt_iff_lt, ge_iff_le, Int.not_lt, Int.not_le, beq_iff_eq, beq_eq_false_iff_ne, Bool.not_eq_true', Bool.not_eq_false', Bool.and_eq_true, Bool.or_eq_true, Bool.and_eq_false_imp, Bool.or_eq_false_iff, ne_eq, Classical.not_not] at hq)
       | with_reducible refine retP_ret_i ?_
       | with_reducible refine retP_normal_i ?_
       | (with_reducible (show bindG _ _ _ _ _); simp only [hall])) <;> try simp only [Go.AM.S1, Go.AM.S2, Go.AM.S3, Go.AM.S4, Go.AM.S5, Go.AM.S6, Go.AM.S7, Go.AM.S8, Go.AM.S9, Nat.reduceAdd, Nat.reduceMul, Nat.reduceSub, ↓reduceIte, Nat.reduceEqDiff, Nat.reduceLT, Nat.reduceLeDiff, reduceCtorEq, Int.reduceBEq, Int.reduceBNe, Nat.reduceBEq, Int.reduceEq, Int.reduceToNat, Int.reduceLE, Int.reduceLT, Nat.reduceDiv, Int.reduceAdd, Int.reduceSub, Int.reduceMul, Int.reduceNeg, Int.reduceGT, Int.reduceGE, Nat.reduceMod, ty_3, ty_26, ty_42])
    | (with_reducible refine hX _ _ ?_; clear hX X)
    | (with_reducible refine ops_nil_i ?_; try clear hall all)
    | (with_reducible refine opsN_nil_i ?_; try clear hall all)
    | (with_reducible refine hK _ _ ?_; clear hK K)
    | with_reducible refine thenP_normal_i ?_
    | (with_reducible refine zzr4 _ _ ?_; try clear zzr4 Kzzr4)
    | (with_reducible refine zzb0 _ _ ?_; try clear zzb0 Kzzb0)
    | (with_reducible refine zzsr2 _ _ ?_; try clear zzsr2 Kzzsr2)
    | (with_reducible refine zzr2 _ _ ?_; try clear zzr2 Kzzr2)
    | (with_reducible refine zzr1 _ _ ?_; try clear zzr1 Kzzr1)
    | (with_reducible refine zzr0 _ _ ?_; try clear zzr0 Kzzr0)
    | (with_reducible refine awp_lp (σ := Nat) (fun n => n ≤ a.length ∧ ∀ i, n ≤ i → a.getD i 0 = 0) (fun n => [(0, .rd .u64 a), (3, .v (.int .i64 n))]) (fun _ => []) (fun n => n) a.length ?_ ?_ (fun s hs => ?_))
    | (with_reducible refine awp_seq_l (a := .region 4 _ _) [2] ?_; intro Kzzr4 zzr4)
    | (with_reducible refine awp_seq_l (a := .block 0 _) [3] ?_; intro Kzzb0 zzb0)
    | (with_reducible refine awp_seq_l (a := .seq (.region 2 _ _) _) [0, 3] ?_; intro Kzzsr2 zzsr2)
    | (with_reducible refine awp_seq_l (a := .region 2 _ _) [0, 3, 15] ?_; intro Kzzr2 zzr2)
    | (with_reducible refine awp_seq_l (a := .region 1 _ _) [0, 3] ?_; intro Kzzr1 zzr1)
    | (with_reducible refine awp_seq_l (a := .region 0 _ _) [0] ?_; intro Kzzr0 zzr0)
    | (with_reducible refine awp_seq_k ?_; intro K hK)
    | (with_reducible refine awp_region_a ?_; intro all hall K hK)
    | (with_reducible refine awp_draw_n ?_ ?_; kernel_rfl; intro all hall K hK)
    | (with_reducible refine Chk_i ?_ ?_)
    | (with_reducible refine keysC_i ?_; kernel_rfl)
    | (with_reducible first | refine awp_block_i ?_ | refine awp_skip_i ?_ | refine awp_ret_i ?_ | refine awp_exit_i ?_ | refine thenP_ret_i ?_ | refine thenP_exit_i ?_ | refine lpP_ret_i ?_ | refine lpP_exit_i ?_ | refine unrP_succ_i ?_ | refine unrP_ret_i ?_ | refine unrP_exit_i ?_ | refine blockP_normal_i ?_ | refine blockP_ret_i ?_)
    | (with_reducible refine blockP_exit_i ?_; simp only [↓reduceIte, Nat.reduceEqDiff])
    | with_reducible refine lpP_normal_i ?_)
  all_goals (try clear zzr0; try clear Kzzr0)
  all_goals (try clear zzr1; try clear Kzzr1)
  all_goals (try clear zzr2; try clear Kzzr2)
  all_goals (try clear zzsr2; try clear Kzzsr2)
  all_goals (try clear zzb0; try clear Kzzb0)
  all_goals (try clear zzr4; try clear Kzzr4)
  all_goals (try simp only [inR])
  · exact ⟨Nat.le_refl _, fun i hi => by simp [List.getD, List.getElem?_eq_none hi]⟩
  · with_reducible exact Ent.refl _ _
  · omega
  · omega
  · omega
  · refine ⟨s - 1, by (refine ent_ok [] rfl ?_ ?_ <;> simp only [memLe, slotsLe, AvLe, lk, ↓reduceIte, Nat.reduceEqDiff, Option.isSome_some, and_self, and_true, true_and, reduceCtorEq, List.map_nil, List.map_cons, Option.some.injEq, AV.v.injEq, Value.int.injEq, Value.bool.injEq, AV.rd.injEq, AV.ow.injEq, AV.al.injEq, AV.ref.injEq] <;> omega), ⟨by omega, fun i hi => ?_⟩, by omega⟩
    by_cases h : s ≤ i
    · exact hs.2 i h
    · have : i = s - 1 := by omega
      subst this
      have e : ((s : Int) - 1).toNat = s - 1 := by omega
      rw [e] at hq
      exact hq
  · have e : ((s : Int) - 1).toNat = s - 1 := by omega
    rw [e] at hq
    rw [sz_eq s hs.1 hs.2 (.inr hq)]
  · rw [sz_eq s hs.1 hs.2 (.inl (by omega))]
theorem sound_31 : Sound Try.prog 31 .body (norm s31) := by
  refine sound_norm (sound_body Try.func31 (show Try.f31.body = some (code Try.f31) from rfl) (by kernel_rfl) tysOk G31_ok (drawOk_ok (by kernel_rfl) tysOk G31_ok) (by kernel_rfl) fun ds p r hs hp => ?_)
  unfold s31 at hs
  split at hs
  · cases hs; exact ⟨Nat.le_of_ble_eq_true (by kernel_rfl), w31 _ hp⟩
  · cases hs
end Go.Proofs.AMT
set_option maxRecDepth 20000
namespace Go.Proofs.AMT
open Go.AM Go.AM.LN
attribute [local congr] bindO_congr bindS_congr bindG_congr awpOps_congr aOne_congr awp_congr aCond_congr awpD_congr dOne_congr keysB_congr nOne_congr thenP_congr blockP_congr Chk_congr Brk_congr
noncomputable def s51 : CSpec := fun ds => match ds with
  | [.v (.int .i64 n)] => some (True, .many [.v (infoV n), .v (.int .i64 (errV n))])
  | _ => none
theorem s51_eq (n : Int) : norm s51 [.v (.int .i64 n)] = some (True, .many [.v (infoV n), .v (.int .i64 (errV n))]) := rfl
noncomputable def G51 : Gam := []
theorem G51_ok : GamOk Try.prog G51 := gamOk_nil
noncomputable def rofR (n : Int) : Option (Prop × Res) := (lk (GamN ty 1000 bodies extB 10) 51).bind fun s => s.2 [.v (.int .i64 n)]
theorem rofR_1 : rofR 1 = some (True, .many [.v (infoT 1), .v (.int .i64 0)]) := by kernel_rfl
theorem rofR_2 : rofR 2 = some (True, .many [.v (infoT 2), .v (.int .i64 0)]) := by kernel_rfl
theorem rofR_3 : rofR 3 = some (True, .many [.v (infoT 3), .v (.int .i64 0)]) := by kernel_rfl
theorem rofR_4 : rofR 4 = some (True, .many [.v (infoT 4), .v (.int .i64 0)]) := by kernel_rfl
theorem rofR_5 : rofR 5 = some (True, .many [.v (infoT 5), .v (.int .i64 0)]) := by kernel_rfl
theorem rofR_6 : rofR 6 = some (True, .many [.v (infoT 6), .v (.int .i64 0)]) := by kernel_rfl
theorem rofR_7 : rofR 7 = some (True, .many [.v (infoT 7), .v (.int .i64 0)]) := by kernel_rfl
theorem rofR_8 : rofR 8 = some (True, .many [.v (infoT 8), .v (.int .i64 0)]) := by kernel_rfl
theorem rofR_9 : rofR 9 = some (True, .many [.v (infoT 9), .v (.int .i64 0)]) := by kernel_rfl
theorem rofR_10 : rofR 10 = some (True, .many [.v (infoT 10), .v (.int .i64 0)]) := by kernel_rfl
theorem rofR_11 : rofR 11 = some (True, .many [.v (infoT 11), .v (.int .i64 0)]) := by kernel_rfl
theorem rofR_12 : rofR 12 = some (True, .many [.v (infoT 12), .v (.int .i64 0)]) := by kernel_rfl
set_option maxHeartbeats 20000000 in
theorem w51 (n : Int) (hp : ¬ (1 ≤ n ∧ n ≤ 12)) : awp ty G51 (code Try.f51) (retP ty Try.f51.results.toList (.many [.v infoZ, .v (.int .i64 1)])) (entry 0 [.v (.int .i64 n)]) [] := by
  unfold code
  simp only [Try.f51, Option.getD_some]
  have q1 : (n == 1) = false := by simp only [beq_eq_false_iff_ne, ne_eq]; omega
  have q2 : (n == 2) = false := by simp only [beq_eq_false_iff_ne, ne_eq]; omega
  have q3 : (n == 3) = false := by simp only [beq_eq_false_iff_ne, ne_eq]; omega
  have q4 : (n == 4) = false := by simp only [beq_eq_false_iff_ne, ne_eq]; omega
  have q5 : (n == 5) = false := by simp only [beq_eq_false_iff_ne, ne_eq]; omega
  have q6 : (n == 6) = false := by simp only [beq_eq_false_iff_ne, ne_eq]; omega
  have q7 : (n == 7) = false := by simp only [beq_eq_false_iff_ne, ne_eq]; omega
  have q8 : (n == 8) = false := by simp only [beq_eq_false_iff_ne, ne_eq]; omega
  have q9 : (n == 9) = false := by simp only [beq_eq_false_iff_ne, ne_eq]; omega
  have q10 : (n == 10) = false := by simp only [beq_eq_false_iff_ne, ne_eq]; omega
  have q11 : (n == 11) = false := by simp only [beq_eq_false_iff_ne, ne_eq]; omega
  have q12 : (n == 12) = false := by simp only [beq_eq_false_iff_ne, ne_eq]; omega
  all_goals repeat' (first
    | ((first
       | (with_reducible refine ops_k ?_; intro X hX)
       | (with_reducible refine opsN_k ?_; intro X hX)
       | (with_reducible show awp _ _ _ _ (keepL _ _) _)
       | with_reducible refine awp_cond_k ?_
       | (with_reducible refine Brk_i ?_ ?_ <;> intro hb <;> (try simp only [hb]) <;> have hq := hb <;> try simp only [decide_eq_true_eq, decide_eq_false_iff_not, gt_iff_lt, ge_iff_le, Int.not_lt, Int.not_le, beq_iff_eq, beq_eq_false_iff_ne, Bool.not_eq_true', Bool.not_eq_false', Bool.and_eq_true, Bool.or_eq_true, Bool.and_eq_false_imp, Bool.or_eq_false_iff, ne_eq, Classical.not_not] at hq)
       | with_reducible refine retP_ret_i ?_
       | with_reducible refine retP_normal_i ?_
       | (with_reducible (show bindG _ _ _ _ _); simp only [hall])) <;> try simp only [Go.AM.S1, Go.AM.S2, Go.AM.S3, Go.AM.S4, Go.AM.S5, Go.AM.S6, Go.AM.S7, Go.AM.S8, Go.AM.S9, Nat.reduceAdd, Nat.reduceMul, Nat.reduceSub, ↓reduceIte, Nat.reduceEqDiff, Nat.reduceLT, Nat.reduceLeDiff, reduceCtorEq, Int.reduceBEq, Int.reduceBNe, Nat.reduceBEq, Int.reduceEq, Int.reduceToNat, Int.reduceLE, Int.reduceLT, Nat.reduceDiv, Int.reduceAdd, Int.reduceSub, Int.reduceMul, Int.reduceNeg, Int.reduceGT, Int.reduceGE, Nat.reduceMod, ty_3, ty_4, ty_9, ty_72, ty_91, q1, q2, q3, q4, q5, q6, q7, q8, q9, q10, q11, q12])
    | (with_reducible refine hX _ _ ?_; clear hX X)
    | (with_reducible refine ops_nil_i ?_; try clear hall all)
    | (with_reducible refine opsN_nil_i ?_; try clear hall all)
    | (with_reducible refine hK _ _ ?_; clear hK K)
    | with_reducible refine thenP_normal_i ?_
    | (with_reducible refine zzr35 _ _ ?_; try clear zzr35 Kzzr35)
    | (with_reducible refine zzr34 _ _ ?_; try clear zzr34 Kzzr34)
    | (with_reducible refine zzsr26 _ _ ?_; try clear zzsr26 Kzzsr26)
    | (with_reducible refine zzr28 _ _ ?_; try clear zzr28 Kzzr28)
    | (with_reducible refine zzr27 _ _ ?_; try clear zzr27 Kzzr27)
    | (with_reducible refine zzr31 _ _ ?_; try clear zzr31 Kzzr31)
    | (with_reducible refine zzr30 _ _ ?_; try clear zzr30 Kzzr30)
    | (with_reducible refine zzr26 _ _ ?_; try clear zzr26 Kzzr26)
    | (with_reducible refine zzr25 _ _ ?_; try clear zzr25 Kzzr25)
    | (with_reducible refine zzsr2 _ _ ?_; try clear zzsr2 Kzzsr2)
    | (with_reducible refine zzr3 _ _ ?_; try clear zzr3 Kzzr3)
    | (with_reducible refine zzsr22 _ _ ?_; try clear zzsr22 Kzzsr22)
    | (with_reducible refine zzr22 _ _ ?_; try clear zzr22 Kzzr22)
    | (with_reducible refine zzsr19 _ _ ?_; try clear zzsr19 Kzzsr19)
    | (with_reducible refine zzr19 _ _ ?_; try clear zzr19 Kzzr19)
    | (with_reducible refine zzsr16 _ _ ?_; try clear zzsr16 Kzzsr16)
    | (with_reducible refine zzr16 _ _ ?_; try clear zzr16 Kzzr16)
    | (with_reducible refine zzr14 _ _ ?_; try clear zzr14 Kzzr14)
    | (with_reducible refine zzr12 _ _ ?_; try clear zzr12 Kzzr12)
    | (with_reducible refine zzr10 _ _ ?_; try clear zzr10 Kzzr10)
    | (with_reducible refine zzr8 _ _ ?_; try clear zzr8 Kzzr8)
    | (with_reducible refine zzr6 _ _ ?_; try clear zzr6 Kzzr6)
    | (with_reducible refine zzr4 _ _ ?_; try clear zzr4 Kzzr4)
    | (with_reducible refine zzr2 _ _ ?_; try clear zzr2 Kzzr2)
    | (with_reducible refine zzr1 _ _ ?_; try clear zzr1 Kzzr1)
    | (with_reducible refine zzr0 _ _ ?_; try clear zzr0 Kzzr0)
    | (with_reducible refine awp_seq_l (a := .region 35 _ _) [2, 3] ?_; intro Kzzr35 zzr35)
    | (with_reducible refine awp_seq_l (a := .region 34 _ _) [2, 4] ?_; intro Kzzr34 zzr34)
    | (with_reducible refine awp_seq_l (a := .seq (.region 26 _ _) _) [2, 4, 5] ?_; intro Kzzsr26 zzsr26)
    | (with_reducible refine awp_seq_l (a := .region 28 _ _) [2, 4, 5] ?_; intro Kzzr28 zzr28)
    | (with_reducible refine awp_seq_l (a := .region 27 _ _) [2, 4] ?_; intro Kzzr27 zzr27)
    | (with_reducible refine awp_seq_l (a := .region 31 _ _) [2, 4, 5, 90] ?_; intro Kzzr31 zzr31)
    | (with_reducible refine awp_seq_l (a := .region 30 _ _) [2, 4, 5] ?_; intro Kzzr30 zzr30)
    | (with_reducible refine awp_seq_l (a := .region 26 _ _) [0, 2, 4, 5, 64] ?_; intro Kzzr26 zzr26)
    | (with_reducible refine awp_seq_l (a := .region 25 _ _) [0, 2, 4, 5] ?_; intro Kzzr25 zzr25)
    | (with_reducible refine awp_seq_l (a := .seq (.region 2 _ _) _) [0, 2, 4] ?_; intro Kzzsr2 zzsr2)
    | (with_reducible refine awp_seq_l (a := .region 3 _ _) [2, 3] ?_; intro Kzzr3 zzr3)
    | (with_reducible refine awp_seq_l (a := .seq (.region 22 _ _) _) [0, 2, 4, 54] ?_; intro Kzzsr22 zzsr22)
    | (with_reducible refine awp_seq_l (a := .region 22 _ _) [0, 2, 4, 8, 54] ?_; intro Kzzr22 zzr22)
    | (with_reducible refine awp_seq_l (a := .seq (.region 19 _ _) _) [0, 2, 4, 8, 47] ?_; intro Kzzsr19 zzsr19)
    | (with_reducible refine awp_seq_l (a := .region 19 _ _) [0, 2, 4, 8, 47] ?_; intro Kzzr19 zzr19)
    | (with_reducible refine awp_seq_l (a := .seq (.region 16 _ _) _) [0, 2, 4, 8, 40] ?_; intro Kzzsr16 zzsr16)
    | (with_reducible refine awp_seq_l (a := .region 16 _ _) [0, 2, 4, 8, 40] ?_; intro Kzzr16 zzr16)
    | (with_reducible refine awp_seq_l (a := .region 14 _ _) [0, 2, 4, 8, 35] ?_; intro Kzzr14 zzr14)
    | (with_reducible refine awp_seq_l (a := .region 12 _ _) [0, 2, 4, 8, 30] ?_; intro Kzzr12 zzr12)
    | (with_reducible refine awp_seq_l (a := .region 10 _ _) [0, 2, 4, 8, 25] ?_; intro Kzzr10 zzr10)
    | (with_reducible refine awp_seq_l (a := .region 8 _ _) [0, 2, 4, 8, 20] ?_; intro Kzzr8 zzr8)
    | (with_reducible refine awp_seq_l (a := .region 6 _ _) [0, 2, 4, 8, 15] ?_; intro Kzzr6 zzr6)
    | (with_reducible refine awp_seq_l (a := .region 4 _ _) [0, 2, 4, 8, 10] ?_; intro Kzzr4 zzr4)
    | (with_reducible refine awp_seq_l (a := .region 2 _ _) [0, 2, 4, 8] ?_; intro Kzzr2 zzr2)
    | (with_reducible refine awp_seq_l (a := .region 1 _ _) [0, 2, 4] ?_; intro Kzzr1 zzr1)
    | (with_reducible refine awp_seq_l (a := .region 0 _ _) [0, 2] ?_; intro Kzzr0 zzr0)
    | (with_reducible refine awp_seq_k ?_; intro K hK)
    | (with_reducible refine awp_region_a ?_; intro all hall K hK)
    | (with_reducible refine awp_draw_n ?_ ?_; kernel_rfl; intro all hall K hK)
    | (with_reducible refine Chk_i ?_ ?_)
    | (with_reducible refine keysC_i ?_; kernel_rfl)
    | (with_reducible first | refine awp_block_i ?_ | refine awp_skip_i ?_ | refine awp_ret_i ?_ | refine awp_exit_i ?_ | refine thenP_ret_i ?_ | refine thenP_exit_i ?_ | refine lpP_ret_i ?_ | refine lpP_exit_i ?_ | refine unrP_succ_i ?_ | refine unrP_ret_i ?_ | refine unrP_exit_i ?_ | refine blockP_normal_i ?_ | refine blockP_ret_i ?_)
    | (with_reducible refine blockP_exit_i ?_; simp only [↓reduceIte, Nat.reduceEqDiff])
    | with_reducible refine lpP_normal_i ?_)
  all_goals (try clear zzr0; try clear Kzzr0)
  all_goals (try clear zzr1; try clear Kzzr1)
  all_goals (try clear zzr2; try clear Kzzr2)
  all_goals (try clear zzr4; try clear Kzzr4)
  all_goals (try clear zzr6; try clear Kzzr6)
  all_goals (try clear zzr8; try clear Kzzr8)
  all_goals (try clear zzr10; try clear Kzzr10)
  all_goals (try clear zzr12; try clear Kzzr12)
  all_goals (try clear zzr14; try clear Kzzr14)
  all_goals (try clear zzr16; try clear Kzzr16)
  all_goals (try clear zzsr16; try clear Kzzsr16)
  all_goals (try clear zzr19; try clear Kzzr19)
  all_goals (try clear zzsr19; try clear Kzzsr19)
  all_goals (try clear zzr22; try clear Kzzr22)
  all_goals (try clear zzsr22; try clear Kzzsr22)
  all_goals (try clear zzr3; try clear Kzzr3)
  all_goals (try clear zzsr2; try clear Kzzsr2)
  all_goals (try clear zzr25; try clear Kzzr25)
  all_goals (try clear zzr26; try clear Kzzr26)
  all_goals (try clear zzr30; try clear Kzzr30)
  all_goals (try clear zzr31; try clear Kzzr31)
  all_goals (try clear zzr27; try clear Kzzr27)
  all_goals (try clear zzr28; try clear Kzzr28)
  all_goals (try clear zzsr26; try clear Kzzsr26)
  all_goals (try clear zzr34; try clear Kzzr34)
  all_goals (try clear zzr35; try clear Kzzr35)
  all_goals rfl
noncomputable def s51w : CSpec := fun ds => match ds with
  | [.v (.int .i64 n)] => some (¬ (1 ≤ n ∧ n ≤ 12), .many [.v infoZ, .v (.int .i64 1)])
  | _ => none
theorem sound_51w : Sound Try.prog 51 .body s51w := by
  refine sound_body Try.func51 (show Try.f51.body = some (code Try.f51) from rfl) (by kernel_rfl) tysOk G51_ok (drawOk_ok (by kernel_rfl) tysOk G51_ok) (by kernel_rfl) fun ds p r hs hp => ?_
  unfold s51w at hs
  split at hs
  · cases hs; exact ⟨Nat.le_of_ble_eq_true (by kernel_rfl), w51 _ hp⟩
  · cases hs
theorem sound_51c : ∀ n : Int, 1 ≤ n ∧ n ≤ 12 → ∃ spec : CSpec, Sound Try.prog 51 .body spec ∧ spec [.v (.int .i64 n)] = some (True, .many [.v (infoT n), .v (.int .i64 0)]) := by
  intro n hn
  have hg := (GamN_ok (fuel := 1000) (P := Try.prog) (by kernel_rfl) tysOk extB_ok extB_free bodies_ok bodies_some 10).1
  have h : rofR n = some (True, .many [.v (infoT n), .v (.int .i64 0)]) := by
    have hn' : n = 1 ∨ n = 2 ∨ n = 3 ∨ n = 4 ∨ n = 5 ∨ n = 6 ∨ n = 7 ∨ n = 8 ∨ n = 9 ∨ n = 10 ∨ n = 11 ∨ n = 12 := by omega
    rcases hn' with rfl | rfl | rfl | rfl | rfl | rfl | rfl | rfl | rfl | rfl | rfl | rfl
    · exact rofR_1
    · exact rofR_2
    · exact rofR_3
    · exact rofR_4
    · exact rofR_5
    · exact rofR_6
    · exact rofR_7
    · exact rofR_8
    · exact rofR_9
    · exact rofR_10
    · exact rofR_11
    · exact rofR_12
  unfold rofR at h
  obtain ⟨⟨fk, spec⟩, h1, h2⟩ := Option.bind_eq_some_iff.1 h
  have hs := hg 51 fk spec h1
  have hfk : fk = .body := by
    have : (lk (GamN ty 1000 bodies extB 10) 51).map (·.1) = some .body := by kernel_rfl
    rw [h1] at this
    exact Option.some.inj this
  subst hfk
  exact ⟨spec, hs, h2⟩
theorem sound_51 : Sound Try.prog 51 .body (norm s51) := by
  refine sound_norm ?_
  obtain ⟨fn, h1, h2, h3, h4⟩ := sound_51w
  refine ⟨fn, h1, h2, h3, fun ds p r hs hp w vs hr => ?_⟩
  unfold s51 at hs
  split at hs
  · rename_i n
    cases hs
    by_cases hn : 1 ≤ n ∧ n ≤ 12
    · obtain ⟨spec, ⟨fn', h1', h2', h3', h4'⟩, h5⟩ := sound_51c n hn
      rw [infoV_in hn, errV_in hn]
      exact h4' _ _ _ h5 trivial w vs hr
    · rw [infoV_out hn, errV_out hn]
      exact h4 _ _ _ rfl hn w vs hr
  · cases hs
end Go.Proofs.AMT
set_option maxRecDepth 20000
namespace Go.Proofs.AMT
open Go.AM Go.AM.LN
attribute [local congr] bindO_congr bindS_congr bindG_congr awpOps_congr aOne_congr awp_congr aCond_congr awpD_congr dOne_congr keysB_congr nOne_congr thenP_congr blockP_congr Chk_congr Brk_congr
noncomputable def s56 : CSpec := fun ds => match ds with
  | [.sl .u64 a] => some (lim a ∧ a.length ≤ 100000000, .one (.v (.int .i64 (blen (val a)))))
  | _ => none
theorem s56_eq (a : List Int) : norm s56 [.sl .u64 a] = some (lim a ∧ a.length ≤ 100000000, .one (.v (.int .i64 (blen (val a))))) := rfl
theorem s56_nil1  : norm s56 [.v (.slice none 0 0)] = some (lim ([] : List Int) ∧ ([] : List Int).length ≤ 100000000, .one (.v (.int .i64 (blen (val ([] : List Int)))))) := rfl
noncomputable def G56 : Gam := [(31, .body, norm s31), (67, .body, norm s67)]
theorem G56_ok : GamOk Try.prog G56 := gamOk_cons sound_31 (gamOk_cons sound_67 gamOk_nil)
theorem k56_31 : lk G56 31 = some (.body, norm s31) := rfl
theorem k56_67 : lk G56 67 = some (.body, norm s67) := rfl
set_option maxHeartbeats 20000000 in
theorem w56 (a : List Int) (hp : lim a ∧ a.length ≤ 100000000) : awp ty G56 (code Try.f56) (retP ty Try.f56.results.toList (.one (.v (.int .i64 (blen (val a)))))) (entry 0 [.sl .u64 a]) [] := by
  unfold code
  simp only [Try.f56, Option.getD_some]
  have za := sz_le a
  all_goals repeat' (first
    | ((first
       | (with_reducible refine ops_k ?_; intro X hX)
       | (with_reducible refine opsN_k ?_; intro X hX)
       | (with_reducible show awp _ _ _ _ (keepL _ _) _)
       | with_reducible refine awp_cond_k ?_
       | (with_reducible refine Brk_i ?_ ?_ <;> intro hb <;> (try simp only [hb]) <;> have hq := hb <;> try simp only [decide_eq_true_eq, decide_eq_false_iff_not, gt_iff_lt, ge_iff_le, Int.not_lt, Int.not_le, beq_iff_eq, beq_eq_false_iff_ne, Bool.not_eq_true', Bool.not_eq_false', Bool.and_eq_true, Bool.or_eq_true, Bool.and_eq_false_imp, Bool.or_eq_false_iff, ne_eq, Classical.not_not] at hq)
       | with_reducible refine retP_ret_i ?_
       | with_reducible refine retP_normal_i ?_
       | (with_reducible (show bindG _ _ _ _ _); simp only [hall])) <;> try simp only [Go.AM.S1, Go.AM.S2, Go.AM.S3, Go.AM.S4, Go.AM.S5, Go.AM.S6, Go.AM.S7, Go.AM.S8, Go.AM.S9, Nat.reduceAdd, Nat.reduceMul, Nat.reduceSub, ↓reduceIte, Nat.reduceEqDiff, Nat.reduceLT, Nat.reduceLeDiff, reduceCtorEq, Int.reduceBEq, Int.reduceBNe, Nat.reduceBEq, Int.reduceEq, Int.reduceToNat, Int.reduceLE, Int.reduceLT, Nat.reduceDiv, Int.reduceAdd, Int.reduceSub, Int.reduceMul, Int.reduceNeg, Int.reduceGT, Int.reduceGE, Nat.reduceMod, k56_31, s31_eq, s31_nil1, k56_67, s67_eq, ty_3, ty_26, ty_42])
    | (with_reducible refine hX _ _ ?_; clear hX X)
    | (with_reducible refine ops_nil_i ?_; try clear hall all)
    | (with_reducible refine opsN_nil_i ?_; try clear hall all)
    | (with_reducible refine hK _ _ ?_; clear hK K)
    | with_reducible refine thenP_normal_i ?_
    | (with_reducible refine zzr4 _ _ ?_; try clear zzr4 Kzzr4)
    | (with_reducible refine zzsr2 _ _ ?_; try clear zzsr2 Kzzsr2)
    | (with_reducible refine zzr3 _ _ ?_; try clear zzr3 Kzzr3)
    | (with_reducible refine zzr2 _ _ ?_; try clear zzr2 Kzzr2)
    | (with_reducible refine zzr1 _ _ ?_; try clear zzr1 Kzzr1)
    | (with_reducible refine zzr0 _ _ ?_; try clear zzr0 Kzzr0)
    | (with_reducible refine awp_seq_l (a := .region 4 _ _) [2] ?_; intro Kzzr4 zzr4)
    | (with_reducible refine awp_seq_l (a := .seq (.region 2 _ _) _) [0, 3] ?_; intro Kzzsr2 zzsr2)
    | (with_reducible refine awp_seq_l (a := .region 3 _ _) [2] ?_; intro Kzzr3 zzr3)
    | (with_reducible refine awp_seq_l (a := .region 2 _ _) [0, 3, 7] ?_; intro Kzzr2 zzr2)
    | (with_reducible refine awp_seq_l (a := .region 1 _ _) [0, 3] ?_; intro Kzzr1 zzr1)
    | (with_reducible refine awp_seq_l (a := .region 0 _ _) [0] ?_; intro Kzzr0 zzr0)
    | (with_reducible refine awp_seq_k ?_; intro K hK)
    | (with_reducible refine awp_region_a ?_; intro all hall K hK)
    | (with_reducible refine awp_draw_n ?_ ?_; kernel_rfl; intro all hall K hK)
    | (with_reducible refine Chk_i ?_ ?_)
    | (with_reducible refine keysC_i ?_; kernel_rfl)
    | (with_reducible first | refine awp_block_i ?_ | refine awp_skip_i ?_ | refine awp_ret_i ?_ | refine awp_exit_i ?_ | refine thenP_ret_i ?_ | refine thenP_exit_i ?_ | refine lpP_ret_i ?_ | refine lpP_exit_i ?_ | refine unrP_succ_i ?_ | refine unrP_ret_i ?_ | refine unrP_exit_i ?_ | refine blockP_normal_i ?_ | refine blockP_ret_i ?_)
    | (with_reducible refine blockP_exit_i ?_; simp only [↓reduceIte, Nat.reduceEqDiff])
    | with_reducible refine lpP_normal_i ?_)
  all_goals (try clear zzr0; try clear Kzzr0)
  all_goals (try clear zzr1; try clear Kzzr1)
  all_goals (try clear zzr2; try clear Kzzr2)
  all_goals (try clear zzr3; try clear Kzzr3)
  all_goals (try clear zzsr2; try clear Kzzsr2)
  all_goals (try clear zzr4; try clear Kzzr4)
  all_goals (try simp only [inR])
  all_goals (try omega)
  · have h0 := (sz_zero hp.1).1 (by omega)
    rw [h0]; rfl
  all_goals have e : ((sz a : Int) - 1).toNat = sz a - 1 := by omega
  all_goals rw [e]
  all_goals have hg := lim_get hp.1 (i := sz a - 1)
  · exact hg
  all_goals have h1 := blen_top hp.1 (by omega)
  all_goals have h2 : blen (a.getD (sz a - 1) 0).toNat ≤ 64 := blen_lt.2 (by omega)
  · omega
  · refine congrArg _ ?_
    omega
theorem sound_56 : Sound Try.prog 56 .body (norm s56) := by
  refine sound_norm (sound_body Try.func56 (show Try.f56.body = some (code Try.f56) from rfl) (by kernel_rfl) tysOk G56_ok (drawOk_ok (by kernel_rfl) tysOk G56_ok) (by kernel_rfl) fun ds p r hs hp => ?_)
  unfold s56 at hs
  split at hs
  · cases hs; exact ⟨Nat.le_of_ble_eq_true (by kernel_rfl), w56 _ hp⟩
  · cases hs
end Go.Proofs.AMT
set_option maxRecDepth 20000
namespace Go.Proofs.AMT
open Go.AM Go.AM.LN
attribute [local congr] bindO_congr bindS_congr bindG_congr awpOps_congr aOne_congr awp_congr aCond_congr awpD_congr dOne_congr keysB_congr nOne_congr thenP_congr blockP_congr Chk_congr Brk_congr
noncomputable def s79 : CSpec := fun ds => match ds with
  | [.v (.agg ⟨[.int .i64 i0, .string i1, .int .i64 i2, .int .i64 i3, .int .i64 i4, .int .i64 i5, .int .i64 i6, .int .i64 i7, .int .i64 i8, .bool i9]⟩), .v (.agg ⟨[.int .i64 cl, .bool sg, .bool si, .int .i64 ex, .int .u64 c0, .int .u64 c1, .int .u64 c2, .int .u64 c3]⟩)] => some (((0 ≤ c0 ∧ c0 < 18446744073709551616) ∧ (0 ≤ c1 ∧ c1 < 18446744073709551616) ∧ (0 ≤ c2 ∧ c2 < 18446744073709551616) ∧ (0 ≤ c3 ∧ c3 < 18446744073709551616)) ∧ ((cl = 1 ∧ si = false ∧ i6 ≤ ex ∧ ex ≤ i7 ∧ ((blen (V4 c0 c1 c2 c3) : Int) = i4 ∨ ((blen (V4 c0 c1 c2 c3) : Int) < i4 ∧ ex = i6))) ∨ (cl = 2 ∧ si = false ∧ blen (V4 c0 c1 c2 c3) = 0 ∧ ex = 0) ∨ (cl = 3 ∧ ex = 0 ∧ (blen (V4 c0 c1 c2 c3) : Int) ≤ i8 ∧ (blen (V4 c0 c1 c2 c3) ≠ 0 ∨ si = false))), .one (.v (.bool true)))
  | _ => none
theorem s79_eq (i0 : Int) (i1 : ByteArray) (i2 : Int) (i3 : Int) (i4 : Int) (i5 : Int) (i6 : Int) (i7 : Int) (i8 : Int) (i9 : Bool) (cl : Int) (sg : Bool) (si : Bool) (ex : Int) (c0 : Int) (c1 : Int) (c2 : Int) (c3 : Int) : norm s79 [.v (.agg #[.int .i64 i0, .string i1, .int .i64 i2, .int .i64 i3, .int .i64 i4, .int .i64 i5, .int .i64 i6, .int .i64 i7, .int .i64 i8, .bool i9]), .v (.agg #[.int .i64 cl, .bool sg, .bool si, .int .i64 ex, .int .u64 c0, .int .u64 c1, .int .u64 c2, .int .u64 c3])] = some (((0 ≤ c0 ∧ c0 < 18446744073709551616) ∧ (0 ≤ c1 ∧ c1 < 18446744073709551616) ∧ (0 ≤ c2 ∧ c2 < 18446744073709551616) ∧ (0 ≤ c3 ∧ c3 < 18446744073709551616)) ∧ ((cl = 1 ∧ si = false ∧ i6 ≤ ex ∧ ex ≤ i7 ∧ ((blen (V4 c0 c1 c2 c3) : Int) = i4 ∨ ((blen (V4 c0 c1 c2 c3) : Int) < i4 ∧ ex = i6))) ∨ (cl = 2 ∧ si = false ∧ blen (V4 c0 c1 c2 c3) = 0 ∧ ex = 0) ∨ (cl = 3 ∧ ex = 0 ∧ (blen (V4 c0 c1 c2 c3) : Int) ≤ i8 ∧ (blen (V4 c0 c1 c2 c3) ≠ 0 ∨ si = false))), .one (.v (.bool true))) := rfl
noncomputable def G79 : Gam := [(56, .body, norm s56)]
theorem G79_ok : GamOk Try.prog G79 := gamOk_cons sound_56 gamOk_nil
theorem k79_56 : lk G79 56 = some (.body, norm s56) := rfl
set_option maxHeartbeats 20000000 in
theorem w79 (i0 : Int) (i1 : ByteArray) (i2 : Int) (i3 : Int) (i4 : Int) (i5 : Int) (i6 : Int) (i7 : Int) (i8 : Int) (i9 : Bool) (cl : Int) (sg : Bool) (si : Bool) (ex : Int) (c0 : Int) (c1 : Int) (c2 : Int) (c3 : Int) (hp : ((0 ≤ c0 ∧ c0 < 18446744073709551616) ∧ (0 ≤ c1 ∧ c1 < 18446744073709551616) ∧ (0 ≤ c2 ∧ c2 < 18446744073709551616) ∧ (0 ≤ c3 ∧ c3 < 18446744073709551616)) ∧ ((cl = 1 ∧ si = false ∧ i6 ≤ ex ∧ ex ≤ i7 ∧ ((blen (V4 c0 c1 c2 c3) : Int) = i4 ∨ ((blen (V4 c0 c1 c2 c3) : Int) < i4 ∧ ex = i6))) ∨ (cl = 2 ∧ si = false ∧ blen (V4 c0 c1 c2 c3) = 0 ∧ ex = 0) ∨ (cl = 3 ∧ ex = 0 ∧ (blen (V4 c0 c1 c2 c3) : Int) ≤ i8 ∧ (blen (V4 c0 c1 c2 c3) ≠ 0 ∨ si = false)))) : awp ty G79 (code Try.f79) (retP ty Try.f79.results.toList (.one (.v (.bool true)))) (entry 0 [.v (.agg #[.int .i64 i0, .string i1, .int .i64 i2, .int .i64 i3, .int .i64 i4, .int .i64 i5, .int .i64 i6, .int .i64 i7, .int .i64 i8, .bool i9]), .v (.agg #[.int .i64 cl, .bool sg, .bool si, .int .i64 ex, .int .u64 c0, .int .u64 c1, .int .u64 c2, .int .u64 c3])]) [] := by
  unfold code
  simp only [Try.f79, Option.getD_some]
  have hc := hp.1
  have hV : val [c0, c1, c2, c3] = (V4 c0 c1 c2 c3) := rfl
  rcases hp.2 with ⟨rfl, rfl, h1, h2, h3 | ⟨h3, h4⟩⟩ | ⟨rfl, rfl, h1, rfl⟩ | ⟨rfl, rfl, h1, h2 | rfl⟩
  all_goals clear hp
  all_goals first
    | (have g1 : decide (ex ≥ i6) = true := by simp only [decide_eq_true_eq]; omega)
    | (have g1 : decide (ex ≥ i6) = false := by simp only [decide_eq_false_iff_not]; omega)
    | (have g1 : decide ((4 : Int) ≥ 5) = false := rfl)
  all_goals first
    | (have g2 : decide (ex ≤ i7) = true := by simp only [decide_eq_true_eq]; omega)
    | (have g2 : decide (ex ≤ i7) = false := by simp only [decide_eq_false_iff_not]; omega)
    | (have g2 : decide ((4 : Int) ≥ 5) = false := rfl)
  all_goals first
    | (have g3 : ((blen (V4 c0 c1 c2 c3) : Int) == i4) = true := by simp only [beq_iff_eq]; omega)
    | (have g3 : ((blen (V4 c0 c1 c2 c3) : Int) == i4) = false := by simp only [beq_eq_false_iff_ne, ne_eq]; omega)
    | (have g3 : decide ((4 : Int) ≥ 5) = false := rfl)
  all_goals first
    | (have g4 : decide ((blen (V4 c0 c1 c2 c3) : Int) ≤ i4) = true := by simp only [decide_eq_true_eq]; omega)
    | (have g4 : decide ((blen (V4 c0 c1 c2 c3) : Int) ≤ i4) = false := by simp only [decide_eq_false_iff_not]; omega)
    | (have g4 : decide ((4 : Int) ≥ 5) = false := rfl)
  all_goals first
    | (have g5 : (ex == i6) = true := by simp only [beq_iff_eq]; omega)
    | (have g5 : (ex == i6) = false := by simp only [beq_eq_false_iff_ne, ne_eq]; omega)
    | (have g5 : decide ((4 : Int) ≥ 5) = false := rfl)
  all_goals first
    | (have g6 : decide ((blen (V4 c0 c1 c2 c3) : Int) ≤ i8) = true := by simp only [decide_eq_true_eq]; omega)
    | (have g6 : decide ((blen (V4 c0 c1 c2 c3) : Int) ≤ i8) = false := by simp only [decide_eq_false_iff_not]; omega)
    | (have g6 : decide ((4 : Int) ≥ 5) = false := rfl)
  all_goals first
    | (have g7 : ((blen (V4 c0 c1 c2 c3) : Int) == 0) = true := by simp only [beq_iff_eq]; omega)
    | (have g7 : ((blen (V4 c0 c1 c2 c3) : Int) == 0) = false := by simp only [beq_eq_false_iff_ne, ne_eq]; omega)
    | (have g7 : decide ((4 : Int) ≥ 5) = false := rfl)
  all_goals first
    | (have g8 : decide ((blen (V4 c0 c1 c2 c3) : Int) > 0) = true := by simp only [decide_eq_true_eq]; omega)
    | (have g8 : decide ((blen (V4 c0 c1 c2 c3) : Int) > 0) = false := by simp only [decide_eq_false_iff_not]; omega)
    | (have g8 : decide ((4 : Int) ≥ 5) = false := rfl)
  all_goals repeat' (first
    | ((first
       | (with_reducible refine ops_k ?_; intro X hX)
       | (with_reducible refine opsN_k ?_; intro X hX)
       | (with_reducible show awp _ _ _ _ (keepL _ _) _)
       | with_reducible refine awp_cond_k ?_
       | (with_reducible refine Brk_i ?_ ?_ <;> intro hb <;> (try simp only [hb]) <;> have hq := hb <;> try simp only [decide_eq_true_eq, decide_eq_false_iff_not, gt_iff_lt, ge_iff_le, Int.not_lt, Int.not_le, beq_iff_eq, beq_eq_false_iff_ne, Bool.not_eq_true', Bool.not_eq_false', Bool.and_eq_true, Bool.or_eq_true, Bool.and_eq_false_imp, Bool.or_eq_false_iff, ne_eq, Classical.not_not] at hq)
       | with_reducible refine retP_ret_i ?_
       | with_reducible refine retP_normal_i ?_
       | (with_reducible (show bindG _ _ _ _ _); simp only [hall])) <;> try simp only [Go.AM.S1, Go.AM.S2, Go.AM.S3, Go.AM.S4, Go.AM.S5, Go.AM.S6, Go.AM.S7, Go.AM.S8, Go.AM.S9, Nat.reduceAdd, Nat.reduceMul, Nat.reduceSub, ↓reduceIte, Nat.reduceEqDiff, Nat.reduceLT, Nat.reduceLeDiff, reduceCtorEq, Int.reduceBEq, Int.reduceBNe, Nat.reduceBEq, Int.reduceEq, Int.reduceToNat, Int.reduceLE, Int.reduceLT, Nat.reduceDiv, Int.reduceAdd, Int.reduceSub, Int.reduceMul, Int.reduceNeg, Int.reduceGT, Int.reduceGE, Nat.reduceMod, k79_56, s56_eq, s56_nil1, ty_3, ty_4, ty_9, ty_26, ty_28, ty_42, ty_53, ty_91, hV, g1, g2, g3, g4, g5, g6, g7, g8, toInts])
    | (with_reducible refine hX _ _ ?_; clear hX X)
    | (with_reducible refine ops_nil_i ?_; try clear hall all)
    | (with_reducible refine opsN_nil_i ?_; try clear hall all)
    | (with_reducible refine hK _ _ ?_; clear hK K)
    | with_reducible refine thenP_normal_i ?_
    | (with_reducible refine zzr9 _ _ ?_; try clear zzr9 Kzzr9)
    | (with_reducible refine zzsr2 _ _ ?_; try clear zzsr2 Kzzsr2)
    | (with_reducible refine zzr4 _ _ ?_; try clear zzr4 Kzzr4)
    | (with_reducible refine zzr6 _ _ ?_; try clear zzr6 Kzzr6)
    | (with_reducible refine zzr8 _ _ ?_; try clear zzr8 Kzzr8)
    | (with_reducible refine zzr7 _ _ ?_; try clear zzr7 Kzzr7)
    | (with_reducible refine zzr5 _ _ ?_; try clear zzr5 Kzzr5)
    | (with_reducible refine zzr3 _ _ ?_; try clear zzr3 Kzzr3)
    | (with_reducible refine zzr2 _ _ ?_; try clear zzr2 Kzzr2)
    | (with_reducible refine zzr1 _ _ ?_; try clear zzr1 Kzzr1)
    | (with_reducible refine zzr0 _ _ ?_; try clear zzr0 Kzzr0)
    | (with_reducible refine awp_seq_l (a := .region 9 _ _) [4] ?_; intro Kzzr9 zzr9)
    | (with_reducible refine awp_seq_l (a := .seq (.region 2 _ _) _) [] ?_; intro Kzzsr2 zzsr2)
    | (with_reducible refine awp_seq_l (a := .region 4 _ _) [4] ?_; intro Kzzr4 zzr4)
    | (with_reducible refine awp_seq_l (a := .region 6 _ _) [4] ?_; intro Kzzr6 zzr6)
    | (with_reducible refine awp_seq_l (a := .region 8 _ _) [4] ?_; intro Kzzr8 zzr8)
    | (with_reducible refine awp_seq_l (a := .region 7 _ _) [2, 3, 5, 63] ?_; intro Kzzr7 zzr7)
    | (with_reducible refine awp_seq_l (a := .region 5 _ _) [2, 3, 5, 10, 49] ?_; intro Kzzr5 zzr5)
    | (with_reducible refine awp_seq_l (a := .region 3 _ _) [2, 3, 5, 10, 11] ?_; intro Kzzr3 zzr3)
    | (with_reducible refine awp_seq_l (a := .region 2 _ _) [2, 3, 5, 10] ?_; intro Kzzr2 zzr2)
    | (with_reducible refine awp_seq_l (a := .region 1 _ _) [2, 3, 5] ?_; intro Kzzr1 zzr1)
    | (with_reducible refine awp_seq_l (a := .region 0 _ _) [2, 3] ?_; intro Kzzr0 zzr0)
    | (with_reducible refine awp_seq_k ?_; intro K hK)
    | (with_reducible refine awp_region_a ?_; intro all hall K hK)
    | (with_reducible refine awp_draw_n ?_ ?_; kernel_rfl; intro all hall K hK)
    | (with_reducible refine Chk_i ?_ ?_)
    | (with_reducible refine keysC_i ?_; kernel_rfl)
    | (with_reducible first | refine awp_block_i ?_ | refine awp_skip_i ?_ | refine awp_ret_i ?_ | refine awp_exit_i ?_ | refine thenP_ret_i ?_ | refine thenP_exit_i ?_ | refine lpP_ret_i ?_ | refine lpP_exit_i ?_ | refine unrP_succ_i ?_ | refine unrP_ret_i ?_ | refine unrP_exit_i ?_ | refine blockP_normal_i ?_ | refine blockP_ret_i ?_)
    | (with_reducible refine blockP_exit_i ?_; simp only [↓reduceIte, Nat.reduceEqDiff])
    | with_reducible refine lpP_normal_i ?_)
  all_goals (try clear zzr0; try clear Kzzr0)
  all_goals (try clear zzr1; try clear Kzzr1)
  all_goals (try clear zzr2; try clear Kzzr2)
  all_goals (try clear zzr3; try clear Kzzr3)
  all_goals (try clear zzr5; try clear Kzzr5)
  all_goals (try clear zzr7; try clear Kzzr7)
  all_goals (try clear zzr8; try clear Kzzr8)
  all_goals (try clear zzr6; try clear Kzzr6)
  all_goals (try clear zzr4; try clear Kzzr4)
  all_goals (try clear zzsr2; try clear Kzzsr2)
  all_goals (try clear zzr9; try clear Kzzr9)
  all_goals first
    | omega
    | exact lim4 hc.1 hc.2.1 hc.2.2.1 hc.2.2.2
    | skip
theorem sound_79 : Sound Try.prog 79 .body (norm s79) := by
  refine sound_norm (sound_body Try.func79 (show Try.f79.body = some (code Try.f79) from rfl) (by kernel_rfl) tysOk G79_ok (drawOk_ok (by kernel_rfl) tysOk G79_ok) (by kernel_rfl) fun ds p r hs hp => ?_)
  unfold s79 at hs
  split at hs
  · cases hs; exact ⟨Nat.le_of_ble_eq_true (by kernel_rfl), w79 _ _ _ _ _ _ _ _ _ _ _ _ _ _ _ _ _ _ hp⟩
  · cases hs
end Go.Proofs.AMT
set_option maxRecDepth 20000
namespace Go.Proofs.AMT
open Go.AM Go.AM.LN
attribute [local congr] bindO_congr bindS_congr bindG_congr awpOps_congr aOne_congr awp_congr aCond_congr awpD_congr dOne_congr keysB_congr nOne_congr thenP_congr blockP_congr Chk_congr Brk_congr
noncomputable def s89 : CSpec := fun ds => match ds with
  | [.sl .u64 a, .v (.int .i64 i)] => some (0 ≤ i, .one (.v (.int .u64 (a.getD i.toNat 0))))
  | _ => none
theorem s89_eq (a : List Int) (i : Int) : norm s89 [.sl .u64 a, .v (.int .i64 i)] = some (0 ≤ i, .one (.v (.int .u64 (a.getD i.toNat 0)))) := rfl
theorem s89_nil1  (i : Int) : norm s89 [.v (.slice none 0 0), .v (.int .i64 i)] = some (0 ≤ i, .one (.v (.int .u64 (([] : List Int).getD i.toNat 0)))) := rfl
noncomputable def G89 : Gam := []
theorem G89_ok : GamOk Try.prog G89 := gamOk_nil
set_option maxHeartbeats 20000000 in
theorem w89 (a : List Int) (i : Int) (hp : 0 ≤ i) : awp ty G89 (code Try.f89) (retP ty Try.f89.results.toList (.one (.v (.int .u64 (a.getD i.toNat 0))))) (entry 0 [.sl .u64 a, .v (.int .i64 i)]) [] := by
  unfold code
  simp only [Try.f89, Option.getD_some]
  all_goals repeat' (first
    | ((first
       | (with_reducible refine ops_k ?_; intro X hX)
       | (with_reducible refine opsN_k ?_; intro X hX)
       | (with_reducible show awp _ _ _ _ (keepL _ _) _)
       | with_reducible refine awp_cond_k ?_
       | (with_reducible refine Brk_i ?_ ?_ <;> intro hb <;> (try simp only [hb]) <;> have hq := hb <;> try simp only [decide_eq_true_eq, decide_eq_false_iff_not, gt_iff_lt, ge_iff_le, Int.not_lt, Int.not_le, beq_iff_eq, beq_eq_false_iff_ne, Bool.not_eq_true', Bool.not_eq_false', Bool.and_eq_true, Bool.or_eq_true, Bool.and_eq_false_imp, Bool.or_eq_false_iff, ne_eq, Classical.not_not] at hq)
       | with_reducible refine retP_ret_i ?_
       | with_reducible refine retP_normal_i ?_
       | (with_reducible (show bindG _ _ _ _ _); simp only [hall])) <;> try simp only [Go.AM.S1, Go.AM.S2, Go.AM.S3, Go.AM.S4, Go.AM.S5, Go.AM.S6, Go.AM.S7, Go.AM.S8, Go.AM.S9, Nat.reduceAdd, Nat.reduceMul, Nat.reduceSub, ↓reduceIte, Nat.reduceEqDiff, Nat.reduceLT, Nat.reduceLeDiff, reduceCtorEq, Int.reduceBEq, Int.reduceBNe, Nat.reduceBEq, Int.reduceEq, Int.reduceToNat, Int.reduceLE, Int.reduceLT, Nat.reduceDiv, Int.reduceAdd, Int.reduceSub, Int.reduceMul, Int.reduceNeg, Int.reduceGT, Int.reduceGE, Nat.reduceMod, ty_3, ty_26, ty_42])
    | (with_reducible refine hX _ _ ?_; clear hX X)
    | (with_reducible refine ops_nil_i ?_; try clear hall all)
    | (with_reducible refine opsN_nil_i ?_; try clear hall all)
    | (with_reducible refine hK _ _ ?_; clear hK K)
    | with_reducible refine thenP_normal_i ?_
    | (with_reducible refine zzr3 _ _ ?_; try clear zzr3 Kzzr3)
    | (with_reducible refine zzsr1 _ _ ?_; try clear zzsr1 Kzzsr1)
    | (with_reducible refine zzr2 _ _ ?_; try clear zzr2 Kzzr2)
    | (with_reducible refine zzr1 _ _ ?_; try clear zzr1 Kzzr1)
    | (with_reducible refine zzr0 _ _ ?_; try clear zzr0 Kzzr0)
    | (with_reducible refine awp_seq_l (a := .region 3 _ _) [4] ?_; intro Kzzr3 zzr3)
    | (with_reducible refine awp_seq_l (a := .seq (.region 1 _ _) _) [0, 1] ?_; intro Kzzsr1 zzsr1)
    | (with_reducible refine awp_seq_l (a := .region 2 _ _) [4] ?_; intro Kzzr2 zzr2)
    | (with_reducible refine awp_seq_l (a := .region 1 _ _) [0, 1, 12] ?_; intro Kzzr1 zzr1)
    | (with_reducible refine awp_seq_l (a := .region 0 _ _) [0, 1] ?_; intro Kzzr0 zzr0)
    | (with_reducible refine awp_seq_k ?_; intro K hK)
    | (with_reducible refine awp_region_a ?_; intro all hall K hK)
    | (with_reducible refine awp_draw_n ?_ ?_; kernel_rfl; intro all hall K hK)
    | (with_reducible refine Chk_i ?_ ?_)
    | (with_reducible refine keysC_i ?_; kernel_rfl)
    | (with_reducible first | refine awp_block_i ?_ | refine awp_skip_i ?_ | refine awp_ret_i ?_ | refine awp_exit_i ?_ | refine thenP_ret_i ?_ | refine thenP_exit_i ?_ | refine lpP_ret_i ?_ | refine lpP_exit_i ?_ | refine unrP_succ_i ?_ | refine unrP_ret_i ?_ | refine unrP_exit_i ?_ | refine blockP_normal_i ?_ | refine blockP_ret_i ?_)
    | (with_reducible refine blockP_exit_i ?_; simp only [↓reduceIte, Nat.reduceEqDiff])
    | with_reducible refine lpP_normal_i ?_)
  all_goals (try clear zzr0; try clear Kzzr0)
  all_goals (try clear zzr1; try clear Kzzr1)
  all_goals (try clear zzr2; try clear Kzzr2)
  all_goals (try clear zzsr1; try clear Kzzsr1)
  all_goals (try clear zzr3; try clear Kzzr3)
  all_goals (try simp only [inR])
  all_goals first
    | omega
    | rfl
    | (rw [getD_out (by omega)])
theorem sound_89 : Sound Try.prog 89 .body (norm s89) := by
  refine sound_norm (sound_body Try.func89 (show Try.f89.body = some (code Try.f89) from rfl) (by kernel_rfl) tysOk G89_ok (drawOk_ok (by kernel_rfl) tysOk G89_ok) (by kernel_rfl) fun ds p r hs hp => ?_)
  unfold s89 at hs
  split at hs
  · cases hs; exact ⟨Nat.le_of_ble_eq_true (by kernel_rfl), w89 _ _ hp⟩
  · cases hs
end Go.Proofs.AMT
set_option maxRecDepth 20000
namespace Go.Proofs.AMT
open Go.AM Go.AM.LN
attribute [local congr] bindO_congr bindS_congr bindG_congr awpOps_congr aOne_congr awp_congr aCond_congr awpD_congr dOne_congr keysB_congr nOne_congr thenP_congr blockP_congr Chk_congr Brk_congr
noncomputable def s60 : CSpec := fun ds => match ds with
  | [.sl .u64 a] => some (True, .one (.v (.agg #[.int .u64 (a.getD 0 0), .int .u64 (a.getD 1 0), .int .u64 (a.getD 2 0), .int .u64 (a.getD 3 0)])))
  | _ => none
theorem s60_eq (a : List Int) : norm s60 [.sl .u64 a] = some (True, .one (.v (.agg #[.int .u64 (a.getD 0 0), .int .u64 (a.getD 1 0), .int .u64 (a.getD 2 0), .int .u64 (a.getD 3 0)]))) := rfl
theorem s60_nil1  : norm s60 [.v (.slice none 0 0)] = some (True, .one (.v (.agg #[.int .u64 (([] : List Int).getD 0 0), .int .u64 (([] : List Int).getD 1 0), .int .u64 (([] : List Int).getD 2 0), .int .u64 (([] : List Int).getD 3 0)]))) := rfl
noncomputable def G60 : Gam := [(89, .body, norm s89)]
theorem G60_ok : GamOk Try.prog G60 := gamOk_cons sound_89 gamOk_nil
theorem k60_89 : lk G60 89 = some (.body, norm s89) := rfl
set_option maxHeartbeats 20000000 in
theorem w60 (a : List Int) (hp : True) : awp ty G60 (code Try.f60) (retP ty Try.f60.results.toList (.one (.v (.agg #[.int .u64 (a.getD 0 0), .int .u64 (a.getD 1 0), .int .u64 (a.getD 2 0), .int .u64 (a.getD 3 0)])))) (entry 0 [.sl .u64 a]) [] := by
  unfold code
  simp only [Try.f60, Option.getD_some]
  all_goals repeat' (first
    | ((first
       | (with_reducible refine ops_k ?_; intro X hX)
       | (with_reducible refine opsN_k ?_; intro X hX)
       | (with_reducible show awp _ _ _ _ (keepL _ _) _)
       | with_reducible refine awp_cond_k ?_
       | (with_reducible refine Brk_i ?_ ?_ <;> intro hb <;> (try simp only [hb]) <;> have hq := hb <;> try simp only [decide_eq_true_eq, decide_eq_false_iff_not, gt_iff_lt, ge_iff_le, Int.not_lt, Int.not_le, beq_iff_eq, beq_eq_false_iff_ne, Bool.not_eq_true', Bool.not_eq_false', Bool.and_eq_true, Bool.or_eq_true, Bool.and_eq_false_imp, Bool.or_eq_false_iff, ne_eq, Classical.not_not] at hq)
       | with_reducible refine retP_ret_i ?_
       | with_reducible refine retP_normal_i ?_
       | (with_reducible (show bindG _ _ _ _ _); simp only [hall])) <;> try simp only [Go.AM.S1, Go.AM.S2, Go.AM.S3, Go.AM.S4, Go.AM.S5, Go.AM.S6, Go.AM.S7, Go.AM.S8, Go.AM.S9, Nat.reduceAdd, Nat.reduceMul, Nat.reduceSub, ↓reduceIte, Nat.reduceEqDiff, Nat.reduceLT, Nat.reduceLeDiff, reduceCtorEq, Int.reduceBEq, Int.reduceBNe, Nat.reduceBEq, Int.reduceEq, Int.reduceToNat, Int.reduceLE, Int.reduceLT, Nat.reduceDiv, Int.reduceAdd, Int.reduceSub, Int.reduceMul, Int.reduceNeg, Int.reduceGT, Int.reduceGE, Nat.reduceMod, k60_89, s89_eq, s89_nil1, ty_3, ty_26, ty_28, ty_42])
    | (with_reducible refine hX _ _ ?_; clear hX X)
    | (with_reducible refine ops_nil_i ?_; try clear hall all)
    | (with_reducible refine opsN_nil_i ?_; try clear hall all)
    | (with_reducible refine hK _ _ ?_; clear hK K)
    | with_reducible refine thenP_normal_i ?_
    | (with_reducible refine zzr7 _ _ ?_; try clear zzr7 Kzzr7)
    | (with_reducible refine zzsr2 _ _ ?_; try clear zzsr2 Kzzsr2)
    | (with_reducible refine zzb1 _ _ ?_; try clear zzb1 Kzzb1)
    | (with_reducible refine zzr4 _ _ ?_; try clear zzr4 Kzzr4)
    | (with_reducible refine zzctmp6 _ _ ?_; try clear zzctmp6 Kzzctmp6)
    | (with_reducible refine zzr3 _ _ ?_; try clear zzr3 Kzzr3)
    | (with_reducible refine zzr2 _ _ ?_; try clear zzr2 Kzzr2)
    | (with_reducible refine zzr1 _ _ ?_; try clear zzr1 Kzzr1)
    | (with_reducible refine zzr0 _ _ ?_; try clear zzr0 Kzzr0)
    | (with_reducible refine awp_unroll (Nat.succ (Nat.succ (Nat.succ (Nat.succ (Nat.succ Nat.zero))))) ?_)
    | (with_reducible refine awp_seq_l (a := .region 7 _ _) [2] ?_; intro Kzzr7 zzr7)
    | (with_reducible refine awp_seq_l (a := .seq (.region 2 _ _) _) [2, 3] ?_; intro Kzzsr2 zzsr2)
    | (with_reducible refine awp_seq_l (a := .block 1 _) [0, 2, 3, 5] ?_; intro Kzzb1 zzb1)
    | (with_reducible refine awp_seq_l (a := .region 4 _ _) [0, 2, 3, 4, 5] ?_; intro Kzzr4 zzr4)
    | (with_reducible refine awp_seq_l (a := .cond (.tmp 6) _ _) [0, 2, 3, 5] ?_; intro Kzzctmp6 zzctmp6)
    | (with_reducible refine awp_seq_l (a := .region 3 _ _) [0, 2, 3, 5, 6] ?_; intro Kzzr3 zzr3)
    | (with_reducible refine awp_seq_l (a := .region 2 _ _) [0, 2, 3, 5] ?_; intro Kzzr2 zzr2)
    | (with_reducible refine awp_seq_l (a := .region 1 _ _) [0, 2, 3] ?_; intro Kzzr1 zzr1)
    | (with_reducible refine awp_seq_l (a := .region 0 _ _) [0, 2] ?_; intro Kzzr0 zzr0)
    | (with_reducible refine awp_seq_k ?_; intro K hK)
    | (with_reducible refine awp_region_a ?_; intro all hall K hK)
    | (with_reducible refine awp_draw_n ?_ ?_; kernel_rfl; intro all hall K hK)
    | (with_reducible refine Chk_i ?_ ?_)
    | (with_reducible refine keysC_i ?_; kernel_rfl)
    | (with_reducible first | refine awp_block_i ?_ | refine awp_skip_i ?_ | refine awp_ret_i ?_ | refine awp_exit_i ?_ | refine thenP_ret_i ?_ | refine thenP_exit_i ?_ | refine lpP_ret_i ?_ | refine lpP_exit_i ?_ | refine unrP_succ_i ?_ | refine unrP_ret_i ?_ | refine unrP_exit_i ?_ | refine blockP_normal_i ?_ | refine blockP_ret_i ?_)
    | (with_reducible refine blockP_exit_i ?_; simp only [↓reduceIte, Nat.reduceEqDiff])
    | with_reducible refine lpP_normal_i ?_)
  all_goals (try clear zzr0; try clear Kzzr0)
  all_goals (try clear zzr1; try clear Kzzr1)
  all_goals (try clear zzr2; try clear Kzzr2)
  all_goals (try clear zzr3; try clear Kzzr3)
  all_goals (try clear zzctmp6; try clear Kzzctmp6)
  all_goals (try clear zzr4; try clear Kzzr4)
  all_goals (try clear zzb1; try clear Kzzb1)
  all_goals (try clear zzsr2; try clear Kzzsr2)
  all_goals (try clear zzr7; try clear Kzzr7)
  all_goals (try simp only [inR])
  all_goals first
    | omega
    | rfl
    | skip
theorem sound_60 : Sound Try.prog 60 .body (norm s60) := by
  refine sound_norm (sound_body Try.func60 (show Try.f60.body = some (code Try.f60) from rfl) (by kernel_rfl) tysOk G60_ok (drawOk_ok (by kernel_rfl) tysOk G60_ok) (by kernel_rfl) fun ds p r hs hp => ?_)
  unfold s60 at hs
  split at hs
  · cases hs; exact ⟨Nat.le_of_ble_eq_true (by kernel_rfl), w60 _ hp⟩
  · cases hs
end Go.Proofs.AMT
set_option maxRecDepth 20000
namespace Go.Proofs.AMT
open Go.AM Go.AM.LN
attribute [local congr] bindO_congr bindS_congr bindG_congr awpOps_congr aOne_congr awp_congr aCond_congr awpD_congr dOne_congr keysB_congr nOne_congr thenP_congr blockP_congr Chk_congr Brk_congr
noncomputable def s33 : CSpec := fun ds => match ds with
  | [.sl .u64 a] => some (lim a ∧ a.length ≤ 100000000, .one (.fresh .u64 (limbs (val a))))
  | _ => none
theorem s33_eq (a : List Int) : norm s33 [.sl .u64 a] = some (lim a ∧ a.length ≤ 100000000, .one (.fresh .u64 (limbs (val a)))) := rfl
theorem s33_nil1  : norm s33 [.v (.slice none 0 0)] = some (lim ([] : List Int) ∧ ([] : List Int).length ≤ 100000000, .one (.fresh .u64 (limbs (val ([] : List Int))))) := rfl
noncomputable def G33 : Gam := []
theorem G33_ok : GamOk Try.prog G33 := gamOk_nil
set_option maxHeartbeats 20000000 in
theorem w33 (a : List Int) (hp : lim a ∧ a.length ≤ 100000000) : awp ty G33 (code Try.f33) (retP ty Try.f33.results.toList (.one (.fresh .u64 (limbs (val a))))) (entry 0 [.sl .u64 a]) [] := by
  unfold code
  simp only [Try.f33, Option.getD_some]
  all_goals repeat' (first
    | ((first
       | (with_reducible refine ops_k ?_; intro X hX)
       | (with_reducible refine opsN_k ?_; intro X hX)
       | (with_reducible show awp _ _ _ _ (keepL _ _) _)
       | with_reducible refine awp_cond_k ?_
       | (with_reducible refine Brk_i ?_ ?_ <;> intro hb <;> (try simp only [hb]) <;> have hq := hb <;> try simp only [decide_eq_true_eq, decide_eq_false_iff_not, gt_iff_lt, ge_iff_le, Int.not_lt, Int.not_le, beq_iff_eq, beq_eq_false_iff_ne, Bool.not_eq_true', Bool.not_eq_false', Bool.and_eq_true, Bool.or_eq_true, Bool.and_eq_false_imp, Bool.or_eq_false_iff, ne_eq, Classical.not_not] at hq)
       | with_reducible refine retP_ret_i ?_
       | with_reducible refine retP_normal_i ?_
       | (with_reducible (show bindG _ _ _ _ _); simp only [hall])) <;> try simp only [Go.AM.S1, Go.AM.S2, Go.AM.S3, Go.AM.S4, Go.AM.S5, Go.AM.S6, Go.AM.S7, Go.AM.S8, Go.AM.S9, Nat.reduceAdd, Nat.reduceMul, Nat.reduceSub, ↓reduceIte, Nat.reduceEqDiff, Nat.reduceLT, Nat.reduceLeDiff, reduceCtorEq, Int.reduceBEq, Int.reduceBNe, Nat.reduceBEq, Int.reduceEq, Int.reduceToNat, Int.reduceLE, Int.reduceLT, Nat.reduceDiv, Int.reduceAdd, Int.reduceSub, Int.reduceMul, Int.reduceNeg, Int.reduceGT, Int.reduceGE, Nat.reduceMod, ty_3, ty_26, ty_42, aOne_append, bindP_some, spAppend, intSl, yInts, killE, namesT, names, List.map_cons, List.map_nil, toInts, List.nil_append, List.length_take])
    | (with_reducible refine hX _ _ ?_; clear hX X)
    | (with_reducible refine ops_nil_i ?_; try clear hall all)
    | (with_reducible refine opsN_nil_i ?_; try clear hall all)
    | (with_reducible refine hK _ _ ?_; clear hK K)
    | with_reducible refine thenP_normal_i ?_
    | (with_reducible refine zzr4 _ _ ?_; try clear zzr4 Kzzr4)
    | (with_reducible refine zzb0 _ _ ?_; try clear zzb0 Kzzb0)
    | (with_reducible refine zzsr2 _ _ ?_; try clear zzsr2 Kzzsr2)
    | (with_reducible refine zzr2 _ _ ?_; try clear zzr2 Kzzr2)
    | (with_reducible refine zzr1 _ _ ?_; try clear zzr1 Kzzr1)
    | (with_reducible refine zzr0 _ _ ?_; try clear zzr0 Kzzr0)
    | (with_reducible refine awp_lp (σ := Nat) (fun n => n ≤ a.length ∧ ∀ i, n ≤ i → a.getD i 0 = 0) (fun n => [(0, .rd .u64 a), (3, .v (.int .i64 n))]) (fun _ => []) (fun n => n) a.length ?_ ?_ (fun s hs => ?_))
    | (with_reducible refine awp_seq_l (a := .region 4 _ _) [2] ?_; intro Kzzr4 zzr4)
    | (with_reducible refine awp_seq_l (a := .block 0 _) [0, 3] ?_; intro Kzzb0 zzb0)
    | (with_reducible refine awp_seq_l (a := .seq (.region 2 _ _) _) [0, 3] ?_; intro Kzzsr2 zzsr2)
    | (with_reducible refine awp_seq_l (a := .region 2 _ _) [0, 3, 15] ?_; intro Kzzr2 zzr2)
    | (with_reducible refine awp_seq_l (a := .region 1 _ _) [0, 3] ?_; intro Kzzr1 zzr1)
    | (with_reducible refine awp_seq_l (a := .region 0 _ _) [0] ?_; intro Kzzr0 zzr0)
    | (with_reducible refine awp_seq_k ?_; intro K hK)
    | (with_reducible refine awp_region_a ?_; intro all hall K hK)
    | (with_reducible refine awp_draw_n ?_ ?_; kernel_rfl; intro all hall K hK)
    | (with_reducible refine Chk_i ?_ ?_)
    | (with_reducible refine keysC_i ?_; kernel_rfl)
    | (with_reducible first | refine awp_block_i ?_ | refine awp_skip_i ?_ | refine awp_ret_i ?_ | refine awp_exit_i ?_ | refine thenP_ret_i ?_ | refine thenP_exit_i ?_ | refine lpP_ret_i ?_ | refine lpP_exit_i ?_ | refine unrP_succ_i ?_ | refine unrP_ret_i ?_ | refine unrP_exit_i ?_ | refine blockP_normal_i ?_ | refine blockP_ret_i ?_)
    | (with_reducible refine blockP_exit_i ?_; simp only [↓reduceIte, Nat.reduceEqDiff])
    | with_reducible refine lpP_normal_i ?_)
  all_goals (try clear zzr0; try clear Kzzr0)
  all_goals (try clear zzr1; try clear Kzzr1)
  all_goals (try clear zzr2; try clear Kzzr2)
  all_goals (try clear zzsr2; try clear Kzzsr2)
  all_goals (try clear zzb0; try clear Kzzb0)
  all_goals (try clear zzr4; try clear Kzzr4)
  all_goals (try simp only [inR])
  · exact ⟨Nat.le_refl _, fun i hi => by simp [List.getD, List.getElem?_eq_none hi]⟩
  · with_reducible exact Ent.refl _ _
  · omega
  · omega
  · omega
  · refine ⟨s - 1, by (refine ent_ok [] rfl ?_ ?_ <;> simp only [memLe, slotsLe, AvLe, lk, ↓reduceIte, Nat.reduceEqDiff, Option.isSome_some, and_self, and_true, true_and, reduceCtorEq, List.map_nil, List.map_cons, Option.some.injEq, AV.v.injEq, Value.int.injEq, Value.bool.injEq, AV.rd.injEq, AV.ow.injEq, AV.al.injEq, AV.ref.injEq] <;> omega), ⟨by omega, fun i hi => ?_⟩, by omega⟩
    by_cases h : s ≤ i
    · exact hs.2 i h
    · have : i = s - 1 := by omega
      subst this
      have e : ((s : Int) - 1).toNat = s - 1 := by omega
      rw [e] at hq
      exact hq
  · omega
  · omega
  · have e : ((s : Int) - 1).toNat = s - 1 := by omega
    rw [e] at hq
    rw [← sz_eq s hs.1 hs.2 (.inr hq), take_sz hp.1]
  · omega
  · omega
  · rw [← sz_eq s hs.1 hs.2 (.inl (by omega)), take_sz hp.1]
theorem sound_33 : Sound Try.prog 33 .body (norm s33) := by
  refine sound_norm (sound_body Try.func33 (show Try.f33.body = some (code Try.f33) from rfl) (by kernel_rfl) tysOk G33_ok (drawOk_ok (by kernel_rfl) tysOk G33_ok) (by kernel_rfl) fun ds p r hs hp => ?_)
  unfold s33 at hs
  split at hs
  · cases hs; exact ⟨Nat.le_of_ble_eq_true (by kernel_rfl), w33 _ hp⟩
  · cases hs
end Go.Proofs.AMT
set_option maxRecDepth 20000
namespace Go.Proofs.AMT
open Go.AM Go.AM.LN
attribute [local congr] bindO_congr bindS_congr bindG_congr awpOps_congr aOne_congr awp_congr aCond_congr awpD_congr dOne_congr keysB_congr nOne_congr thenP_congr blockP_congr Chk_congr Brk_congr
noncomputable def s86 : CSpec := fun ds => match ds with
  | [.sl .u64 a, .v (.int .i64 n)] => some ((lim a ∧ a.length ≤ 40000000) ∧ 0 ≤ n ∧ n ≤ 1000000000, .one (.fresh .u64 (limbs (val a * 2 ^ n.toNat))))
  | _ => none
theorem s86_eq (a : List Int) (n : Int) : norm s86 [.sl .u64 a, .v (.int .i64 n)] = some ((lim a ∧ a.length ≤ 40000000) ∧ 0 ≤ n ∧ n ≤ 1000000000, .one (.fresh .u64 (limbs (val a * 2 ^ n.toNat)))) := rfl
theorem s86_nil1  (n : Int) : norm s86 [.v (.slice none 0 0), .v (.int .i64 n)] = some ((lim ([] : List Int) ∧ ([] : List Int).length ≤ 40000000) ∧ 0 ≤ n ∧ n ≤ 1000000000, .one (.fresh .u64 (limbs (val ([] : List Int) * 2 ^ n.toNat)))) := rfl
noncomputable def G86 : Gam := [(33, .body, norm s33)]
theorem G86_ok : GamOk Try.prog G86 := gamOk_cons sound_33 gamOk_nil
theorem k86_33 : lk G86 33 = some (.body, norm s33) := rfl
set_option maxHeartbeats 20000000 in
theorem w86 (a : List Int) (n : Int) (hp : (lim a ∧ a.length ≤ 40000000) ∧ 0 ≤ n ∧ n ≤ 1000000000) : awp ty G86 (code Try.f86) (retP ty Try.f86.results.toList (.one (.fresh .u64 (limbs (val a * 2 ^ n.toNat))))) (entry 0 [.sl .u64 a, .v (.int .i64 n)]) [] := by
  unfold code
  simp only [Try.f86, Option.getD_some]
  obtain ⟨k, rfl⟩ := Int.eq_ofNat_of_zero_le hp.2.1
  have hk : k = 64 * (k / 64) + k % 64 := by omega
  obtain ⟨w, hw⟩ : ∃ w, k / 64 = w := ⟨_, rfl⟩
  obtain ⟨t, ht⟩ : ∃ t, k % 64 = t := ⟨_, rfl⟩
  have hd : (k : Int).tdiv 64 = (w : Int) := by rw [Int.tdiv_eq_ediv_of_nonneg (by omega)]; omega
  have hm : (k : Int).tmod 64 = (t : Int) := by rw [Int.tmod_eq_emod_of_nonneg (by omega)]; omega
  have hmm : (t : Int) % 18446744073709551616 = (t : Int) := by omega
  have m1 : min t 64 = t := by omega
  have m2 : ((64 - (t : Int)) % 18446744073709551616).toNat = 64 - t := by omega
  have m3 : min (64 - t) 64 = 64 - t := by omega
  obtain ⟨N, hN⟩ : ∃ N, a.length + w + 1 = N := ⟨_, rfl⟩
  have mT : ((a.length : Int) + (w : Int) + 1).toNat = N := by omega
  rcases Nat.eq_zero_or_pos t with ht0 | ht0
  all_goals first
    | (have g5 : decide ((t : Int) > 0) = true := by simp only [decide_eq_true_eq]; omega)
    | (have g5 : decide ((t : Int) > 0) = false := by simp only [decide_eq_false_iff_not]; omega)
  all_goals repeat' (first
    | ((first
       | (with_reducible refine ops_k ?_; intro X hX)
       | (with_reducible refine opsN_k ?_; intro X hX)
       | (with_reducible show awp _ _ _ _ (keepL _ _) _)
       | (with_reducible refine hX _ _ _ _ ?_; clear hX X)
       | (with_reducible refine opsD_k ?_; intro X hX)
       | with_reducible refine awp_cond_k ?_
       | (with_reducible refine Brk_i ?_ ?_ <;> intro hb <;> (try simp only [hb]) <;> have hq := hb <;> try simp only [decide_eq_true_eq, decide_eq_false_iff_not, gt_iff_lt, ge_iff_le, Int.not_lt, Int.not_le, beq_iff_eq, beq_eq_false_iff_ne, Bool.not_eq_true', Bool.not_eq_false', Bool.and_eq_true, Bool.or_eq_true, Bool.and_eq_false_imp, Bool.or_eq_false_iff, ne_eq, Classical.not_not] at hq)
       | with_reducible refine retP_ret_i ?_
       | with_reducible refine retP_normal_i ?_
       | (with_reducible (show bindG _ _ _ _ _); simp only [hall])) <;> try simp only [Go.AM.S1, Go.AM.S2, Go.AM.S3, Go.AM.S4, Go.AM.S5, Go.AM.S6, Go.AM.S7, Go.AM.S8, Go.AM.S9, Nat.reduceAdd, Nat.reduceMul, Nat.reduceSub, ↓reduceIte, Nat.reduceEqDiff, Nat.reduceLT, Nat.reduceLeDiff, reduceCtorEq, Int.reduceBEq, Int.reduceBNe, Nat.reduceBEq, Int.reduceEq, Int.reduceToNat, Int.reduceLE, Int.reduceLT, Nat.reduceDiv, Int.reduceAdd, Int.reduceSub, Int.reduceMul, Int.reduceNeg, Int.reduceGT, Int.reduceGE, Nat.reduceMod, k86_33, s33_eq, s33_nil1, ty_3, ty_26, ty_42, ty_72, List.length_replicate, hd, hm, hmm, mT, IntKind.bits, m1, m2, m3, g5])
    | (with_reducible refine hX _ _ ?_; clear hX X)
    | (with_reducible refine opsD_nil_i ?_; try clear hall all)
    | (with_reducible refine keysB_i ?_; kernel_rfl)
    | ((with_reducible show clashK _ _ _ = true); kernel_rfl)
    | (with_reducible refine ops_nil_i ?_; try clear hall all)
    | (with_reducible refine opsN_nil_i ?_; try clear hall all)
    | (with_reducible refine hK _ _ ?_; clear hK K)
    | with_reducible refine thenP_normal_i ?_
    | (with_reducible refine zzr9 _ _ ?_; try clear zzr9 Kzzr9)
    | (with_reducible refine zzsr2 _ _ ?_; try clear zzsr2 Kzzsr2)
    | (with_reducible refine zzb1 _ _ ?_; try clear zzb1 Kzzb1)
    | (with_reducible refine zzr6 _ _ ?_; try clear zzr6 Kzzr6)
    | (with_reducible refine zzr5 _ _ ?_; try clear zzr5 Kzzr5)
    | (with_reducible refine zzr4 _ _ ?_; try clear zzr4 Kzzr4)
    | (with_reducible refine zzctmp17 _ _ ?_; try clear zzctmp17 Kzzctmp17)
    | (with_reducible refine zzr3 _ _ ?_; try clear zzr3 Kzzr3)
    | (with_reducible refine zzr2 _ _ ?_; try clear zzr2 Kzzr2)
    | (with_reducible refine zzr1 _ _ ?_; try clear zzr1 Kzzr1)
    | (with_reducible refine zzr0 _ _ ?_; try clear zzr0 Kzzr0)
    | (with_reducible refine awp_lp (σ := Nat × List Int) (fun s => (s.1 ≤ a.length ∧ s.2.length = N) ∧ lim s.2 ∧ val s.2 = val (a.take s.1) * 2 ^ (64 * w + t)) (fun s => [(0, .rd .u64 a), (1, .v (.int .i64 k)), (5, .ow 208), (15, .v (.int .i64 a.length)), (16, .v (.int .i64 s.1))]) (fun s => [(208, .ints .u64 s.2, false)]) (fun s => a.length - s.1) (0, List.replicate N 0) ?_ ?_ (fun s hs => ?_))
    | (with_reducible refine awp_seq_l (a := .region 9 _ _) [4] ?_; intro Kzzr9 zzr9)
    | (with_reducible refine awp_seq_l (a := .seq (.region 2 _ _) _) [5] ?_; intro Kzzsr2 zzsr2)
    | (with_reducible refine awp_seq_l (a := .block 1 _) [0, 1, 5, 15, 16] ?_; intro Kzzb1 zzb1)
    | (with_reducible refine awp_seq_l (a := .region 6 _ _) [0, 1, 5, 6, 15, 16, 43] ?_; intro Kzzr6 zzr6)
    | (with_reducible refine awp_seq_l (a := .region 5 _ _) [0, 1, 5, 6, 15, 16] ?_; intro Kzzr5 zzr5)
    | (with_reducible refine awp_seq_l (a := .region 4 _ _) [0, 1, 5, 6, 15, 16] ?_; intro Kzzr4 zzr4)
    | (with_reducible refine awp_seq_l (a := .cond (.tmp 17) _ _) [0, 1, 5, 15, 16] ?_; intro Kzzctmp17 zzctmp17)
    | (with_reducible refine awp_seq_l (a := .region 3 _ _) [0, 1, 5, 15, 16, 17] ?_; intro Kzzr3 zzr3)
    | (with_reducible refine awp_seq_l (a := .region 2 _ _) [0, 1, 5, 15, 16] ?_; intro Kzzr2 zzr2)
    | (with_reducible refine awp_seq_l (a := .region 1 _ _) [0, 1, 5] ?_; intro Kzzr1 zzr1)
    | (with_reducible refine awp_seq_l (a := .region 0 _ _) [0, 1] ?_; intro Kzzr0 zzr0)
    | (with_reducible refine awp_seq_k ?_; intro K hK)
    | (with_reducible refine awp_region_a ?_; intro all hall K hK)
    | (with_reducible refine awp_draw_a (id := 5) ?_ ?_; kernel_rfl; intro all hall K hK)
    | (with_reducible refine awp_draw_n ?_ ?_; kernel_rfl; intro all hall K hK)
    | (with_reducible refine Chk_i ?_ ?_)
    | (with_reducible refine keysC_i ?_; kernel_rfl)
    | (with_reducible first | refine awp_block_i ?_ | refine awp_skip_i ?_ | refine awp_ret_i ?_ | refine awp_exit_i ?_ | refine thenP_ret_i ?_ | refine thenP_exit_i ?_ | refine lpP_ret_i ?_ | refine lpP_exit_i ?_ | refine unrP_succ_i ?_ | refine unrP_ret_i ?_ | refine unrP_exit_i ?_ | refine blockP_normal_i ?_ | refine blockP_ret_i ?_)
    | (with_reducible refine blockP_exit_i ?_; simp only [↓reduceIte, Nat.reduceEqDiff])
    | with_reducible refine lpP_normal_i ?_)
  all_goals (try clear zzr0; try clear Kzzr0)
  all_goals (try clear zzr1; try clear Kzzr1)
  all_goals (try clear zzr2; try clear Kzzr2)
  all_goals (try clear zzr3; try clear Kzzr3)
  all_goals (try clear zzctmp17; try clear Kzzctmp17)
  all_goals (try clear zzr4; try clear Kzzr4)
  all_goals (try clear zzr5; try clear Kzzr5)
  all_goals (try clear zzr6; try clear Kzzr6)
  all_goals (try clear zzb1; try clear Kzzb1)
  all_goals (try clear zzsr2; try clear Kzzsr2)
  all_goals (try clear zzr9; try clear Kzzr9)
  all_goals clear hmm m1 m2 m3 mT g5 hm hd
  all_goals (try simp only [inR])
  all_goals (try (rcases s with ⟨i, o⟩))
  all_goals (try (obtain ⟨ss, hs⟩ := hs))
  all_goals (try dsimp only at *)
  all_goals (try omega)
  · exact ⟨⟨Nat.zero_le _, by simp⟩, lim_rep _, by simp [val_rep, val]⟩
  · exact Ent.refl _ _
  · have e : ((i : Int) + (w : Int)).toNat = i + w := by omega
    have h1 := left_lt hp.1.1 hs.2
    rw [ht0, Nat.pow_zero, Nat.mul_one] at h1
    have h0 := getD_zero_of_lt hs.1 h1
    have h4 := lim_get hp.1.1 (i := i)
    rw [e, h0, ht0]
    have h5 : a.getD i 0 * 2 ^ 0 % 18446744073709551616 = a.getD i 0 := by omega
    rw [h5, bits0 h4]
    have h6 := hs.2
    rw [ht0, Nat.add_zero] at h6
    exact ⟨(i + 1, o.set (i + w) (a.getD i 0)), (by (refine ent_ok [(208, 208)] rfl ?_ ?_ <;> simp only [memLe, slotsLe, AvLe, lk, ↓reduceIte, Nat.reduceEqDiff, Option.isSome_some, and_self, and_true, true_and, reduceCtorEq, List.map_nil, List.map_cons, Option.some.injEq, AV.v.injEq, Value.int.injEq, Value.bool.injEq, AV.rd.injEq, AV.ow.injEq, AV.al.injEq, AV.ref.injEq] <;> omega)), ⟨⟨by dsimp only; omega, by simp; omega⟩, lim_set hs.1 h4 _, left_step0 hp.1.1 (by omega) h6 h0⟩, by dsimp only; omega⟩
  · exact ⟨hs.1, by omega⟩
  · have hi : i = a.length := by omega
    rw [hs.2, hi, List.take_length, hk, hw, ht]
  · exact ⟨⟨Nat.zero_le _, by simp⟩, lim_rep _, by simp [val_rep, val]⟩
  · exact Ent.refl _ _
  · have e : ((i : Int) + (w : Int)).toNat = i + w := by omega
    have h1 := left_lt hp.1.1 hs.2
    have e2 : ((i : Int) + (w : Int) + 1).toNat = i + w + 1 := by omega
    have h2 := low_word (V := 0) hs.1 h1 (show t ≤ 64 by omega)
    have h3 := lim_get hs.1 (i := i + w)
    have h4 := lim_get hp.1.1 (i := i)
    have h5 : o.getD (i + w + 1) 0 = 0 := getD_zero_of_lt hs.1 (Nat.lt_of_lt_of_le h1 (by rw [← Nat.pow_add]; exact Nat.pow_le_pow_right (by omega) (by omega)))
    rw [e, e2, or_low ⟨h3.1, h2⟩ h4 (by omega), castShr2 h4.1]
    have h6 : (o.getD (i + w) 0).toNat + (a.getD i 0).toNat * 2 ^ t % 18446744073709551616 < 18446744073709551616 := low_sum (by omega) h2
    have h7 : (a.getD i 0).toNat / 2 ^ (64 - t) < 18446744073709551616 := Nat.lt_of_le_of_lt (Nat.div_le_self _ _) (by omega)
    exact ⟨(i + 1, (o.set (i + w) (((o.getD (i + w) 0).toNat + (a.getD i 0).toNat * 2 ^ t % 18446744073709551616 : Nat) : Int)).set (i + w + 1) (((a.getD i 0).toNat / 2 ^ (64 - t) : Nat) : Int)), (by (refine ent_ok [(208, 208)] rfl ?_ ?_ <;> simp only [memLe, slotsLe, AvLe, lk, ↓reduceIte, Nat.reduceEqDiff, Option.isSome_some, and_self, and_true, true_and, reduceCtorEq, List.map_nil, List.map_cons, Option.some.injEq, AV.v.injEq, Value.int.injEq, Value.bool.injEq, AV.rd.injEq, AV.ow.injEq, AV.al.injEq, AV.ref.injEq] <;> omega)), ⟨⟨by dsimp only; omega, by simp; omega⟩, lim_set (lim_set hs.1 (nat_lim h6) _) (nat_lim h7) _, left_step hp.1.1 (by omega) (by omega) hs.2 rfl h5⟩, by dsimp only; omega⟩
  · exact ⟨hs.1, by omega⟩
  · have hi : i = a.length := by omega
    rw [hs.2, hi, List.take_length, hk, hw, ht]
theorem sound_86 : Sound Try.prog 86 .body (norm s86) := by
  refine sound_norm (sound_body Try.func86 (show Try.f86.body = some (code Try.f86) from rfl) (by kernel_rfl) tysOk G86_ok (drawOk_ok (by kernel_rfl) tysOk G86_ok) (by kernel_rfl) fun ds p r hs hp => ?_)
  unfold s86 at hs
  split at hs
  · cases hs; exact ⟨Nat.le_of_ble_eq_true (by kernel_rfl), w86 _ _ hp⟩
  · cases hs
end Go.Proofs.AMT
set_option maxRecDepth 20000
namespace Go.Proofs.AMT
open Go.AM Go.AM.LN
attribute [local congr] bindO_congr bindS_congr bindG_congr awpOps_congr aOne_congr awp_congr aCond_congr awpD_congr dOne_congr keysB_congr nOne_congr thenP_congr blockP_congr Chk_congr Brk_congr
noncomputable def s88 : CSpec := fun ds => match ds with
  | [.sl .u64 a, .sl .u64 b] => some ((lim a ∧ a.length ≤ 50000000) ∧ lim b ∧ b.length ≤ 50000000, .one (.fresh .u64 (limbs (val a + val b))))
  | _ => none
theorem s88_eq (a : List Int) (b : List Int) : norm s88 [.sl .u64 a, .sl .u64 b] = some ((lim a ∧ a.length ≤ 50000000) ∧ lim b ∧ b.length ≤ 50000000, .one (.fresh .u64 (limbs (val a + val b)))) := rfl
theorem s88_nil1  (b : List Int) : norm s88 [.v (.slice none 0 0), .sl .u64 b] = some ((lim ([] : List Int) ∧ ([] : List Int).length ≤ 50000000) ∧ lim b ∧ b.length ≤ 50000000, .one (.fresh .u64 (limbs (val ([] : List Int) + val b)))) := rfl
theorem s88_nil2 (a : List Int)  : norm s88 [.sl .u64 a, .v (.slice none 0 0)] = some ((lim a ∧ a.length ≤ 50000000) ∧ lim ([] : List Int) ∧ ([] : List Int).length ≤ 50000000, .one (.fresh .u64 (limbs (val a + val ([] : List Int))))) := rfl
theorem s88_nil3   : norm s88 [.v (.slice none 0 0), .v (.slice none 0 0)] = some ((lim ([] : List Int) ∧ ([] : List Int).length ≤ 50000000) ∧ lim ([] : List Int) ∧ ([] : List Int).length ≤ 50000000, .one (.fresh .u64 (limbs (val ([] : List Int) + val ([] : List Int))))) := rfl
noncomputable def G88 : Gam := [(33, .body, norm s33), (89, .body, norm s89), (99, .ext, sAdd64)]
theorem G88_ok : GamOk Try.prog G88 := gamOk_cons sound_33 (gamOk_cons sound_89 (gamOk_cons ext_99 gamOk_nil))
theorem k88_33 : lk G88 33 = some (.body, norm s33) := rfl
theorem k88_89 : lk G88 89 = some (.body, norm s89) := rfl
theorem k88_99 : lk G88 99 = some (.ext, sAdd64) := rfl
set_option maxHeartbeats 20000000 in
theorem w88 (a : List Int) (b : List Int) (hp : (lim a ∧ a.length ≤ 50000000) ∧ lim b ∧ b.length ≤ 50000000) : awp ty G88 (code Try.f88) (retP ty Try.f88.results.toList (.one (.fresh .u64 (limbs (val a + val b))))) (entry 0 [.sl .u64 a, .sl .u64 b]) [] := by
  unfold code
  simp only [Try.f88, Option.getD_some]
  obtain ⟨N, hN⟩ : ∃ N, max a.length b.length + 1 = N := ⟨_, rfl⟩
  have mE : max (a.length : Int) (b.length : Int) + 1 = (N : Int) := by omega
  have mT : ((N : Int)).toNat = N := Int.toNat_natCast N
  all_goals repeat' (first
    | ((first
       | (with_reducible refine ops_k ?_; intro X hX)
       | (with_reducible refine opsN_k ?_; intro X hX)
       | (with_reducible show awp _ _ _ _ (keepL _ _) _)
       | with_reducible refine awp_cond_k ?_
       | (with_reducible refine Brk_i ?_ ?_ <;> intro hb <;> (try simp only [hb]) <;> have hq := hb <;> try simp only [decide_eq_true_eq, decide_eq_false_iff_not, gt_iff_lt, ge_iff_le, Int.not_lt, Int.not_le, beq_iff_eq, beq_eq_false_iff_ne, Bool.not_eq_true', Bool.not_eq_false', Bool.and_eq_true, Bool.or_eq_true, Bool.and_eq_false_imp, Bool.or_eq_false_iff, ne_eq, Classical.not_not] at hq)
       | with_reducible refine retP_ret_i ?_
       | with_reducible refine retP_normal_i ?_
       | (with_reducible (show bindG _ _ _ _ _); simp only [hall])) <;> try simp only [Go.AM.S1, Go.AM.S2, Go.AM.S3, Go.AM.S4, Go.AM.S5, Go.AM.S6, Go.AM.S7, Go.AM.S8, Go.AM.S9, Nat.reduceAdd, Nat.reduceMul, Nat.reduceSub, ↓reduceIte, Nat.reduceEqDiff, Nat.reduceLT, Nat.reduceLeDiff, reduceCtorEq, Int.reduceBEq, Int.reduceBNe, Nat.reduceBEq, Int.reduceEq, Int.reduceToNat, Int.reduceLE, Int.reduceLT, Nat.reduceDiv, Int.reduceAdd, Int.reduceSub, Int.reduceMul, Int.reduceNeg, Int.reduceGT, Int.reduceGE, Nat.reduceMod, k88_33, s33_eq, s33_nil1, k88_89, s89_eq, s89_nil1, k88_99, sAdd64_eq, ty_3, ty_26, ty_42, mE, mT, List.length_replicate])
    | (with_reducible refine hX _ _ ?_; clear hX X)
    | (with_reducible refine ops_nil_i ?_; try clear hall all)
    | (with_reducible refine opsN_nil_i ?_; try clear hall all)
    | (with_reducible refine hK _ _ ?_; clear hK K)
    | with_reducible refine thenP_normal_i ?_
    | (with_reducible refine zzr8 _ _ ?_; try clear zzr8 Kzzr8)
    | (with_reducible refine zzsr3 _ _ ?_; try clear zzsr3 Kzzsr3)
    | (with_reducible refine zzb1 _ _ ?_; try clear zzb1 Kzzb1)
    | (with_reducible refine zzr5 _ _ ?_; try clear zzr5 Kzzr5)
    | (with_reducible refine zzctmp18 _ _ ?_; try clear zzctmp18 Kzzctmp18)
    | (with_reducible refine zzr4 _ _ ?_; try clear zzr4 Kzzr4)
    | (with_reducible refine zzr3 _ _ ?_; try clear zzr3 Kzzr3)
    | (with_reducible refine zzr2 _ _ ?_; try clear zzr2 Kzzr2)
    | (with_reducible refine zzr1 _ _ ?_; try clear zzr1 Kzzr1)
    | (with_reducible refine zzr0 _ _ ?_; try clear zzr0 Kzzr0)
    | (with_reducible refine awp_lp (σ := Nat × Nat × List Int) (fun s => (s.1 ≤ N ∧ s.2.1 ≤ 1 ∧ s.2.2.length = N) ∧ lim s.2.2 ∧ val (s.2.2.take s.1) + s.2.1 * 2 ^ (64 * s.1) = val (a.take s.1) + val (b.take s.1)) (fun s => [(0, .rd .u64 a), (1, .rd .u64 b), (5, .ow 224), (6, .v (.int .u64 s.2.1)), (16, .v (.int .i64 N)), (17, .v (.int .i64 s.1))]) (fun s => [(224, .ints .u64 s.2.2, false)]) (fun s => N - s.1) (0, 0, List.replicate N 0) ?_ ?_ (fun s hs => ?_))
    | (with_reducible refine awp_seq_l (a := .region 8 _ _) [4] ?_; intro Kzzr8 zzr8)
    | (with_reducible refine awp_seq_l (a := .seq (.region 3 _ _) _) [5] ?_; intro Kzzsr3 zzsr3)
    | (with_reducible refine awp_seq_l (a := .block 1 _) [0, 1, 5, 6, 16, 17] ?_; intro Kzzb1 zzb1)
    | (with_reducible refine awp_seq_l (a := .region 5 _ _) [0, 1, 5, 6, 7, 16, 17] ?_; intro Kzzr5 zzr5)
    | (with_reducible refine awp_seq_l (a := .cond (.tmp 18) _ _) [0, 1, 5, 6, 16, 17] ?_; intro Kzzctmp18 zzctmp18)
    | (with_reducible refine awp_seq_l (a := .region 4 _ _) [0, 1, 5, 6, 16, 17, 18] ?_; intro Kzzr4 zzr4)
    | (with_reducible refine awp_seq_l (a := .region 3 _ _) [0, 1, 5, 6, 16, 17] ?_; intro Kzzr3 zzr3)
    | (with_reducible refine awp_seq_l (a := .region 2 _ _) [0, 1, 5, 6] ?_; intro Kzzr2 zzr2)
    | (with_reducible refine awp_seq_l (a := .region 1 _ _) [0, 1, 5] ?_; intro Kzzr1 zzr1)
    | (with_reducible refine awp_seq_l (a := .region 0 _ _) [0, 1] ?_; intro Kzzr0 zzr0)
    | (with_reducible refine awp_seq_k ?_; intro K hK)
    | (with_reducible refine awp_region_a ?_; intro all hall K hK)
    | (with_reducible refine awp_draw_n ?_ ?_; kernel_rfl; intro all hall K hK)
    | (with_reducible refine Chk_i ?_ ?_)
    | (with_reducible refine keysC_i ?_; kernel_rfl)
    | (with_reducible first | refine awp_block_i ?_ | refine awp_skip_i ?_ | refine awp_ret_i ?_ | refine awp_exit_i ?_ | refine thenP_ret_i ?_ | refine thenP_exit_i ?_ | refine lpP_ret_i ?_ | refine lpP_exit_i ?_ | refine unrP_succ_i ?_ | refine unrP_ret_i ?_ | refine unrP_exit_i ?_ | refine blockP_normal_i ?_ | refine blockP_ret_i ?_)
    | (with_reducible refine blockP_exit_i ?_; simp only [↓reduceIte, Nat.reduceEqDiff])
    | with_reducible refine lpP_normal_i ?_)
  all_goals (try clear zzr0; try clear Kzzr0)
  all_goals (try clear zzr1; try clear Kzzr1)
  all_goals (try clear zzr2; try clear Kzzr2)
  all_goals (try clear zzr3; try clear Kzzr3)
  all_goals (try clear zzr4; try clear Kzzr4)
  all_goals (try clear zzctmp18; try clear Kzzctmp18)
  all_goals (try clear zzr5; try clear Kzzr5)
  all_goals (try clear zzb1; try clear Kzzb1)
  all_goals (try clear zzsr3; try clear Kzzsr3)
  all_goals (try clear zzr8; try clear Kzzr8)
  all_goals clear mE mT
  all_goals (try (rcases s with ⟨i, c, o⟩))
  all_goals (try (obtain ⟨ss, hs⟩ := hs))
  all_goals (try dsimp only at *)
  all_goals (try simp only [inR])
  all_goals (try omega)
  · exact ⟨⟨Nat.zero_le _, by omega, by simp⟩, lim_rep _, by simp [val]⟩
  · exact Ent.refl _ _
  · have h1 := lim_get hp.1.1 (i := i)
    have h2 := lim_get hp.2.1 (i := i)
    omega
  · obtain ⟨c', s', e1, e2, e3, e4, e5⟩ := add_step' hp.1.1 hp.2.1 (show c ≤ 1 by omega) (show i < o.length by omega) hs.2
    rw [e1, e2]
    exact ⟨(i + 1, c', o.set i (s' : Int)), (by (refine ent_ok [(224, 224)] rfl ?_ ?_ <;> simp only [memLe, slotsLe, AvLe, lk, ↓reduceIte, Nat.reduceEqDiff, Option.isSome_some, and_self, and_true, true_and, reduceCtorEq, List.map_nil, List.map_cons, Option.some.injEq, AV.v.injEq, Value.int.injEq, Value.bool.injEq, AV.rd.injEq, AV.ow.injEq, AV.al.injEq, AV.ref.injEq] <;> omega)), ⟨⟨by dsimp only; omega, e3, by simp; omega⟩, lim_set hs.1 (nat_lim e4) _, e5⟩, by dsimp only; omega⟩
  · exact ⟨hs.1, by omega⟩
  · have hi : i = N := by omega
    subst hi
    rw [add_fin hp.1.1 hp.2.1 (by omega) (by omega) (by omega) hs.2]
theorem sound_88 : Sound Try.prog 88 .body (norm s88) := by
  refine sound_norm (sound_body Try.func88 (show Try.f88.body = some (code Try.f88) from rfl) (by kernel_rfl) tysOk G88_ok (drawOk_ok (by kernel_rfl) tysOk G88_ok) (by kernel_rfl) fun ds p r hs hp => ?_)
  unfold s88 at hs
  split at hs
  · cases hs; exact ⟨Nat.le_of_ble_eq_true (by kernel_rfl), w88 _ _ hp⟩
  · cases hs
end Go.Proofs.AMT
