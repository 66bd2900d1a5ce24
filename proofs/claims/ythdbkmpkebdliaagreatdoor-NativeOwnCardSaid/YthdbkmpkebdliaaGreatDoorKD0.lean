/- Part of the proof: own text. -/
import Derived.Test.YthdbkmpkebdliaaGreatDoorKA14
set_option linter.all false
set_option maxHeartbeats 20000000
set_option maxRecDepth 20000
namespace Go.AM.LN
open Go Go.Lib
theorem lowS_uniq {x y : Nat} {q : Int} (hx : 0 < x) (hy : 0 < y) (h1 : y * 2 ^ q.toNat ≤ x * 2 ^ (-q).toNat) (h2 : x * 2 ^ (-(q + 1)).toNat < y * 2 ^ (q + 1).toNat) : lowS x y = q := by
  obtain ⟨L1, L2⟩ := lowS_ok hx hy
  generalize lowS x y = L at *
  have key : ∀ a b : Int, a + 1 ≤ b → y * 2 ^ b.toNat ≤ x * 2 ^ (-b).toNat → x * 2 ^ (-(a + 1)).toNat < y * 2 ^ (a + 1).toNat → False := fun a b hab k1 k2 => by
    have m1 := shift_le (m' := (b.natAbs + a.natAbs + 1 + b).toNat) (n' := b.natAbs + a.natAbs + 1) k1 (by omega)
    have m2 := shift_lt' (m' := b.natAbs + a.natAbs + 1) (n' := (b.natAbs + a.natAbs + 1 + (a + 1)).toNat) k2 (by omega)
    have m3 : y * 2 ^ (b.natAbs + a.natAbs + 1 + (a + 1)).toNat ≤ y * 2 ^ (b.natAbs + a.natAbs + 1 + b).toNat := Nat.mul_le_mul_left _ (Nat.pow_le_pow_right (by decide) (by omega))
    omega
  rcases Int.lt_trichotomy L q with h | h | h
  · exact (key L q (by omega) h1 L2).elim
  · exact h
  · exact (key q L (by omega) L1 h2).elim
theorem lowS_scale {x y m : Nat} (hx : 0 < x) (hy : 0 < y) (hm : 0 < m) : lowS (x * m) (y * m) = lowS x y := by
  obtain ⟨L1, L2⟩ := lowS_ok hx hy
  refine lowS_uniq (Nat.mul_pos hx hm) (Nat.mul_pos hy hm) ?_ ?_
  · have := Nat.mul_le_mul_right m L1
    rw [Nat.mul_right_comm y, Nat.mul_right_comm x]
    exact this
  · have := Nat.mul_lt_mul_of_pos_right L2 hm
    rw [Nat.mul_right_comm y, Nat.mul_right_comm x]
    exact this
theorem rnd_scale {n d : Int} {s : Bool} {x y m : Nat} {e : Int} (hy : 0 < y) (hm : 0 < m) : rndV n d s (x * m) (y * m) e = rndV n d s x y e ∧ rndF n d s (x * m) (y * m) e = rndF n d s x y e := by
  rcases Nat.eq_zero_or_pos x with hx | hx
  · subst hx
    rw [Nat.zero_mul, (rnd_zero (n := n) (d := d) (s := s) (e := e) rfl).1, (rnd_zero (n := n) (d := d) (s := s) (e := e) rfl).2, (rnd_zero (n := n) (d := d) (s := s) (e := e) rfl).1, (rnd_zero (n := n) (d := d) (s := s) (e := e) rfl).2]
    exact ⟨rfl, rfl⟩
  · have hl : rlow (x * m) (y * m) e = rlow x y e := by unfold rlow; rw [lowS_scale hx hy hm]
    have hq : rq n (x * m) (y * m) e = rq n x y e := by unfold rq; rw [hl]
    have hd : rdiv n d s (x * m) (y * m) e = rdiv n d s x y e := by
      unfold rdiv
      rw [hq, Nat.mul_right_comm x, Nat.mul_right_comm y]
      exact divS_mul hm
    have h2 : rq2 n d s (x * m) (y * m) e = rq2 n d s x y e := by unfold rq2; rw [hd, hq]
    have h3 : rc n d s (x * m) (y * m) e = rc n d s x y e := by unfold rc; rw [hd]
    have h0 : ¬ x * m = 0 := Nat.pos_iff_ne_zero.1 (Nat.mul_pos hx hm)
    have h1 : ¬ x = 0 := by omega
    unfold rndV rndF
    rw [if_neg h0, if_neg h0, if_neg h1, if_neg h1, h2, h3, hd, hl]
    exact ⟨rfl, rfl⟩
theorem rnd_same {n d : Int} {s : Bool} {x y x' y' : Nat} {e : Int} (hy : 0 < y) (hy' : 0 < y') (h : x * y' = x' * y) : rndV n d s x y e = rndV n d s x' y' e ∧ rndF n d s x y e = rndF n d s x' y' e := by
  have a := @rnd_scale n d s x y y' e hy hy'
  have b := @rnd_scale n d s x' y' y e hy' hy
  rw [h, Nat.mul_comm y y'] at a
  exact ⟨a.1.symm.trans b.1, a.2.symm.trans b.2⟩
def flipD (d : Int) : Int := if d = 3 then 4 else if d = 4 then 3 else d
theorem upS_flip (d : Int) (s o : Bool) (h : Int) : upS (flipD d) (!s) o h = upS d s o h := by
  unfold flipD
  by_cases h3 : d = 3
  · subst h3; simp [upS]
  · by_cases h4 : d = 4
    · subst h4; simp [upS]
    · rw [if_neg h3, if_neg h4]; simp [upS, h3, h4]
theorem infS_flip (d : Int) (s : Bool) : infS (flipD d) (!s) = infS d s := by
  unfold flipD
  by_cases h3 : d = 3
  · subst h3; simp [infS]
  · by_cases h4 : d = 4
    · subst h4; simp [infS]
    · rw [if_neg h3, if_neg h4]; simp [infS, h3, h4]
theorem divS_flip (d : Int) (s : Bool) (x y : Nat) : divS (flipD d) (!s) x y = divS d s x y := by
  unfold divS; rw [upS_flip]
theorem rdiv_flip (n d : Int) (s : Bool) (x y : Nat) (e : Int) : rdiv n (flipD d) (!s) x y e = rdiv n d s x y e := by unfold rdiv; rw [divS_flip]
theorem rndF_flip (n d : Int) (s : Bool) (x y : Nat) (e : Int) : rndF n (flipD d) (!s) x y e = rndF n d s x y e := by
  unfold rndF rq2; rw [rdiv_flip]
theorem rnd_exact {n d : Int} {s : Bool} {x y C : Nat} {ex : Int} (hn : 1 ≤ n ∧ n ≤ 6) (hy : 0 < y) (hC : C ≠ 0) (hd : isD n 1 false C ex) (h : x * 2 ^ (-ex).toNat = C * (y * 2 ^ ex.toNat)) :
    rndV n d s x y 0 = packS n 1 s false C ex ∧ rndF n d s x y 0 = 0 := by
  obtain ⟨F1, F2, F3, F4, F5, F6, F7, F8, F9, F10, F11⟩ := bfmt hn
  have hp := Nat.two_pow_pos ex.toNat
  have hp' := Nat.two_pow_pos (-ex).toNat
  have hx : 0 < x := by
    rcases Nat.eq_zero_or_pos x with h0 | h0
    · rw [h0, Nat.zero_mul] at h
      have := Nat.mul_pos (Nat.pos_of_ne_zero hC) (Nat.mul_pos hy hp)
      omega
    · exact h0
  have hb1 : 2 ^ (blen C - 1) ≤ C := by
    have : 0 < blen C := by have := @blen_zero C; omega
    exact blen_le.1 (by omega)
  have hb2 : C < 2 ^ blen C := blen_lt.1 (Nat.le_refl _)
  have hb0 : 0 < blen C := by have := @blen_zero C; omega
  have hL : lowS x y = (blen C : Int) - 1 + ex := by
    refine lowS_uniq hx hy ?_ ?_
    · have k : y * 2 ^ (blen C - 1 + ex.toNat) ≤ x * 2 ^ (-ex).toNat := by
        rw [h, Nat.pow_add, Nat.mul_left_comm]
        exact Nat.mul_le_mul_right _ hb1
      exact shift_le k (by omega)
    · have k : x * 2 ^ (-ex).toNat < y * 2 ^ (blen C + ex.toNat) := by
        rw [h, Nat.pow_add, Nat.mul_left_comm y]
        exact Nat.mul_lt_mul_of_pos_right hb2 (Nat.mul_pos hy hp)
      exact shift_lt' k (by omega)
  have hrl : rlow x y 0 = (blen C : Int) - 1 + ex := by unfold rlow; rw [hL]; omega
  have hD := hd
  rcases hd with ⟨_, _, d1, d2, d3⟩ | ⟨d0, _⟩ | ⟨d0, _⟩
  · have hq : rq n x y 0 = ex := by unfold rq; rw [hrl]; omega
    have hdv : rdiv n d s x y 0 = (C, true) := by
      unfold rdiv
      rw [hq, show (0 - ex).toNat = (-ex).toNat by omega, show (-(0 - ex)).toNat = ex.toNat by omega, h]
      rw [divS_ex (Nat.mul_mod_left _ _), Nat.mul_div_cancel _ (Nat.mul_pos hy hp)]
    have hv := rnd_num0 (n := n) (d := d) (s := s) (by omega : x ≠ 0) hdv (by omega) (by omega)
    have hf := (rnd_f (n := n) (d := d) (s := s) (by omega : x ≠ 0) hdv (.inr ⟨by omega, by omega⟩)).1 rfl
    rw [hq] at hv
    exact ⟨hv, hf⟩
  · exact absurd d0 (by decide)
  · exact absurd d0 (by decide)
end Go.AM.LN
set_option maxRecDepth 20000
namespace Go.AM.LN
open Go
theorem fields3 {P E A B : Nat} {sg : Bool} (hP : P < A) (hE : E < B) (hA : 0 < A) :
    (P + E * A + (if sg then A * B else 0)) % A = P ∧ (P + E * A + (if sg then A * B else 0)) / A % B = E ∧ ((P + E * A + (if sg then A * B else 0)) / (A * B) % 2 == 1) = sg ∧ P + E * A + (if sg then A * B else 0) < A * B * 2 := by
  have hEA : P + E * A < A * B := by
    have : (E + 1) * A ≤ B * A := Nat.mul_le_mul_right _ hE
    rw [Nat.mul_comm A B, Nat.add_mul, Nat.one_mul] at *
    omega
  have hB : 0 < B := by omega
  have hAB : 0 < A * B := Nat.mul_pos hA hB
  have hd : (P + E * A) / A = E := by
    rw [Nat.add_mul_div_right _ _ hA, Nat.div_eq_of_lt hP, Nat.zero_add]
  cases sg
  · simp only [Bool.false_eq_true, if_false, Nat.add_zero]
    refine ⟨by rw [Nat.add_mul_mod_self_right, Nat.mod_eq_of_lt hP], by rw [hd, Nat.mod_eq_of_lt hE], by rw [Nat.div_eq_of_lt hEA]; rfl, by omega⟩
  · simp only [if_true]
    refine ⟨?_, ?_, ?_, by omega⟩
    · rw [Nat.add_mul_mod_self_left, Nat.add_mul_mod_self_right, Nat.mod_eq_of_lt hP]
    · rw [Nat.add_mul_div_left _ _ hA, hd, Nat.add_mod_right, Nat.mod_eq_of_lt hE]
    · rw [Nat.add_div_right _ hAB, Nat.div_eq_of_lt hEA]; rfl
theorem pack_unpack {n cl : Int} {sg si : Bool} {C : Nat} {ex : Int} (hn : 1 ≤ n ∧ n ≤ 6) (hd : isD n cl si C ex) :
    okB n (packS n cl sg si C ex) = true ∧ dC n (packS n cl sg si C ex) = cl ∧ dS n (packS n cl sg si C ex) = sg ∧ dQ n (packS n cl sg si C ex) = si ∧ dV n (packS n cl sg si C ex) = C ∧ dX n (packS n cl sg si C ex) = ex := by
  have F := bfmt hn
  have p8 := F.p8
  have p241 := F.p241
  have x5 := F.x5
  have x15 := F.x15
  have hw := F.w
  have hl := F.l
  have hee := F.ee
  have e15 := F.e15
  obtain ⟨h1, h2, h3⟩ := packS_sum (sg := sg) hn hd
  obtain ⟨N1, N2⟩ := packN_lt hn hd
  have hE := eS_le hn hd
  have hB0 := Nat.two_pow_pos (fx n).toNat
  have hA0 := Nat.two_pow_pos (fp n - 1).toNat
  have eAB : 2 ^ (fp n - 1 + fx n).toNat = 2 ^ (fp n - 1).toNat * 2 ^ (fx n).toNat := by rw [← Nat.pow_add]; congr 1; omega
  have eW : (fw n - 1).toNat = (fp n - 1 + fx n).toNat := by omega
  have e1 : 2 ^ (fp n - 1).toNat = 2 ^ (fp n - 2).toNat * 2 := by rw [← Nat.pow_succ]; congr 1; omega
  have hpe : (2 : Int) ^ (fx n).toNat = ((2 ^ (fx n).toNat : Nat) : Int) := by simp
  rw [eAB] at h1
  obtain ⟨V, hV⟩ : ∃ V, packS n cl sg si C ex = V := ⟨_, rfl⟩
  rw [hV] at h1 ⊢
  obtain ⟨f1, f2, f3, f4⟩ := fields3 (sg := sg) N1 (show (eS cl n C ex).toNat < 2 ^ (fx n).toNat by omega) hA0
  rw [← h1] at f1 f2 f3 f4
  have uf : uF n V = packN n cl si C := f1
  have ue : uE n V = (eS cl n C ex).toNat := f2
  have us : uS n V = sg := by unfold uS; rw [eW, eAB]; exact f3
  have hO : okB n V = true := by
    have hb : blen V ≤ (fw n).toNat := by
      refine blen_lt.2 (Nat.lt_of_lt_of_le f4 (Nat.le_of_eq ?_))
      rw [← Nat.pow_add, ← Nat.pow_succ]; congr 1; omega
    unfold okB
    rw [decide_eq_true hn, decide_eq_true (by omega)]; rfl
  have kC : dC n V = uC n V := if_pos hO
  have kS : dS n V = uS n V := if_pos hO
  have kQ : dQ n V = uQ n V := if_pos hO
  have kX : dX n V = uX n V := if_pos hO
  have kV : dV n V = uV n V := if_pos hO
  refine ⟨hO, ?_⟩
  rw [kC, kS, kQ, kV, kX, us]
  rcases hd with ⟨rfl, rfl, d1, d2, d3⟩ | ⟨rfl, rfl, d1, d2⟩ | ⟨rfl, d1, d2, d3⟩
  · have pN : packN n 1 false C = C % 2 ^ (fp n - 1).toNat := by unfold packN; rw [if_neg (by simp)]; rfl
    rw [pN] at uf
    rcases d3 with d3 | ⟨d3, d4⟩
    · have es : eS 1 n C ex = ex - (2 - fe n - fp n) + 1 := by unfold eS; rw [if_pos rfl, if_pos d3]
      rw [es] at ue
      obtain ⟨u1, u2, u3, u4⟩ := u_num (n := n) (V := V) (by rw [ue]; omega)
      rw [u1, u2, u3, u4, ue, uf, if_neg (by omega)]
      refine ⟨rfl, rfl, rfl, ?_, by omega⟩
      have c1 : 2 ^ (fp n - 1).toNat ≤ C := blen_le.1 (by omega)
      have c2 : C < 2 ^ (fp n - 1).toNat * 2 := by rw [← Nat.pow_succ]; exact blen_lt.1 (by omega)
      have c3 : C % 2 ^ (fp n - 1).toNat = C - 2 ^ (fp n - 1).toNat := by
        rw [Nat.mod_eq_sub_mod c1, Nat.mod_eq_of_lt (by omega)]
      have c4 : 2 ^ (fp n - 1).toNat < 2 ^ 256 := Nat.pow_lt_pow_right (by omega) (by omega)
      have c5 := or_add (X := C % 2 ^ (fp n - 1).toNat) (Y := 1) (Nat.mod_lt _ hA0)
      rw [Nat.one_mul] at c5 ⊢
      rw [Nat.mod_eq_of_lt c4, c5, c3]; omega
    · have es : eS 1 n C ex = 0 := by unfold eS; rw [if_pos rfl, if_neg (by omega)]
      rw [es] at ue
      have ue' : uE n V = 0 := ue
      obtain ⟨u1, u2, u3, u4⟩ := u_num (n := n) (V := V) (by rw [ue']; omega)
      have c1 : C < 2 ^ (fp n - 1).toNat := blen_lt.1 (by omega)
      rw [u1, u2, u3, u4, ue', uf, if_pos rfl, Nat.mod_eq_of_lt c1]
      exact ⟨rfl, rfl, rfl, rfl, by omega⟩
  · have c0 : C = 0 := blen_zero.1 (by omega)
    subst c0
    have pN : packN n 2 false 0 = 0 := by unfold packN; rw [if_neg (by simp)]; simp
    have es : eS 2 n 0 ex = 2 ^ (fx n).toNat - 1 := by unfold eS; rw [if_neg (by decide)]
    rw [pN] at uf
    rw [es] at ue
    obtain ⟨u1, u2, u3, u4⟩ := u_inf (n := n) (V := V) (by rw [ue]; omega) uf
    rw [u1, u2, u3, u4]
    exact ⟨rfl, rfl, rfl, rfl, d2.symm⟩
  · have es : eS 3 n C ex = 2 ^ (fx n).toNat - 1 := by unfold eS; rw [if_neg (by decide)]
    rw [es] at ue
    have c1 : C < 2 ^ (fp n - 2).toNat := blen_lt.1 (by omega)
    have c2 := Nat.two_pow_pos (fp n - 2).toNat
    have pN : packN n 3 si C = C + if si = false then 2 ^ (fp n - 2).toNat else 0 := by
      unfold packN
      rw [Nat.mod_eq_of_lt (by omega)]
      cases si <;> simp
    rw [pN] at uf
    have nz : uF n V ≠ 0 := by
      rw [uf]
      have := @blen_zero C
      rcases d3 with d3 | d3
      · omega
      · rw [if_pos d3]; omega
    obtain ⟨u1, u2, u3, u4⟩ := u_nan (n := n) (V := V) (by rw [ue]; omega) nz
    have hq : V / 2 ^ (fp n - 2).toNat % 2 = (C + if si = false then 2 ^ (fp n - 2).toNat else 0) / 2 ^ (fp n - 2).toNat := by
      rw [← Nat.mod_mul_right_div_self, ← e1]
      have : V % 2 ^ (fp n - 1).toNat = uF n V := rfl
      rw [this, uf]
    rw [u1, u2, u3, u4, hq, uf]
    refine ⟨rfl, rfl, ?_, ?_, d1.symm⟩
    · cases si
      · rw [if_pos rfl, Nat.add_div_right _ c2, Nat.div_eq_of_lt c1]; rfl
      · rw [if_neg (by simp), Nat.add_zero, Nat.div_eq_of_lt c1]; rfl
    · cases si
      · rw [if_pos rfl, Nat.add_mod_right, Nat.mod_eq_of_lt c1]
      · rw [if_neg (by simp), Nat.add_zero, Nat.mod_eq_of_lt c1]
end Go.AM.LN
set_option maxRecDepth 20000
namespace Go.AM.LN
open Go Go.Lib
theorem rnd_dat {n : Int} (d : Int) (s : Bool) {x y : Nat} {e : Int} (hn : 1 ≤ n ∧ n ≤ 6) (hy : 0 < y) :
    ∃ cl C ex, isD n cl false C ex ∧ rndV n d s x y e = packS n cl s false C ex ∧ rndV n (flipD d) (!s) x y e = packS n cl (!s) false C ex := by
  have F := bfmt hn
  have p8 := F.p8
  have p241 := F.p241
  have e15 := F.e15
  have hl := F.l
  have hee := F.ee
  have h1 : rq2 n (flipD d) (!s) x y e = rq2 n d s x y e := by unfold rq2; rw [rdiv_flip]
  have h2 : rc n (flipD d) (!s) x y e = rc n d s x y e := by unfold rc; rw [rdiv_flip]
  unfold rndV
  rw [h1, h2]
  by_cases hx : x = 0
  · rw [if_pos hx, if_pos hx]
    refine ⟨1, 0, 2 - fe n - fp n, .inl ⟨rfl, rfl, by omega, ?_, .inr ⟨?_, rfl⟩⟩, rfl, rfl⟩
    · omega
    · rw [blen_zero.2 rfl]; omega
  · rw [if_neg hx, if_neg hx]
    by_cases hb : rq2 n d s x y e > fe n + 1 - fp n
    · rw [if_pos hb, if_pos hb]
      unfold ovV
      rw [infS_flip]
      split
      · exact ⟨2, 0, 0, inf_isD n, rfl, rfl⟩
      · refine ⟨1, _, _, .inl ⟨rfl, rfl, ?_, Int.le_refl _, .inl ?_⟩, rfl, rfl⟩
        · omega
        · rw [blen_ones]; omega
    · rw [if_neg hb, if_neg hb]
      have hx' : 0 < x := by omega
      have hO : (rq n x y e = rlow x y e - fp n + 1 ∧ 2 ^ (fp n - 1).toNat ≤ (rdiv n d s x y e).1 ∧ (rdiv n d s x y e).1 ≤ 2 ^ (fp n).toNat) ∨ (rq n x y e = 2 - fe n - fp n ∧ (rdiv n d s x y e).1 ≤ 2 ^ (fp n - 1).toNat) := by
        by_cases hlo : 2 - fe n - fp n - 1 ≤ rlow x y e
        · exact rdiv_ok hn hx' hy hlo
        · obtain ⟨k1, k2⟩ := rdiv_tiny (n := n) (d := d) (s := s) (e := e) hx' hy (by omega) (by omega)
          refine .inr ⟨k1, ?_⟩
          rw [k2]
          have := (@divS_le d s 1 4).2
          have := Nat.two_pow_pos (fp n - 1).toNat
          omega
      have hq := (@rq_b n x y e).1
      unfold rq2 at hb
      by_cases hP : (blen (rdiv n d s x y e).1 : Int) > fp n
      · rw [if_pos hP] at hb
        refine ⟨1, rc n d s x y e, rq2 n d s x y e, ?_, rfl, rfl⟩
        unfold rc rq2
        rw [if_pos hP, if_pos hP]
        exact rnd_isD1 (by omega) hO hq hP (by omega)
      · rw [if_neg hP] at hb
        refine ⟨1, rc n d s x y e, rq2 n d s x y e, ?_, rfl, rfl⟩
        unfold rc rq2
        rw [if_neg hP, if_neg hP]
        exact rnd_isD0 (by omega) hO hq (by omega) (by omega)
theorem sgn_minus (l : List UInt8) : sgnN (45 :: l) = true ∧ sgnR (45 :: l) = l := by
  rw [(sgn_cons 45 l).1, (sgn_cons 45 l).2, if_pos (.inl rfl)]; exact ⟨rfl, rfl⟩
theorem sgn_none {l : List UInt8} (h1 : ¬ l.head? = some 45) (h2 : ¬ l.head? = some 43) : sgnN l = false ∧ sgnR l = l := by
  match l with
  | [] => exact ⟨by rfl, by rfl⟩
  | c :: r =>
    rw [(sgn_cons c r).1, (sgn_cons c r).2]
    have a1 : c ≠ 45 := fun h => h1 (by rw [h]; rfl)
    have a2 : c ≠ 43 := fun h => h2 (by rw [h]; rfl)
    rw [if_neg (by simp [a1, a2])]
    exact ⟨by simp [a1], rfl⟩
theorem gNum_sg (s : Bool) (m : List UInt8) : (gNum s m).c = (gNum false m).c ∧ (gNum s m).q = (gNum false m).q ∧ (gNum s m).d = (gNum false m).d ∧ (gNum s m).x = (gNum false m).x ∧ (gNum s m).e = (gNum false m).e ∧ ((gNum s m).e = 0 → (gNum s m).s = s) := by
  unfold gNum gBad
  split
  · exact ⟨rfl, rfl, rfl, rfl, rfl, fun h => absurd h (by decide)⟩
  · split
    · exact ⟨rfl, rfl, rfl, rfl, rfl, fun _ => rfl⟩
    · split
      · exact ⟨rfl, rfl, rfl, rfl, rfl, fun _ => rfl⟩
      · exact ⟨rfl, rfl, rfl, rfl, rfl, fun h => absurd h (by decide)⟩
theorem gCut_sg {l : List UInt8} (hl : l.length ≤ 3999) (h1 : ¬ l.head? = some 45) (h2 : ¬ l.head? = some 43) :
    ((gCut (45 :: l)).c = (gCut l).c ∧ (gCut (45 :: l)).q = (gCut l).q ∧ (gCut (45 :: l)).d = (gCut l).d ∧ (gCut (45 :: l)).x = (gCut l).x ∧ (gCut (45 :: l)).e = (gCut l).e) ∧ ((gCut l).e = 0 → (gCut (45 :: l)).s = true ∧ (gCut l).s = false) := by
  unfold gCut
  rw [if_neg (by rw [List.length_cons]; omega), if_neg (by omega), (sgn_minus l).1, (sgn_minus l).2, (sgn_none h1 h2).1, (sgn_none h1 h2).2]
  cases gWord (l.map lowB) with
  | some v => obtain ⟨c, q, d⟩ := v; exact ⟨⟨rfl, rfl, rfl, rfl, rfl⟩, fun _ => ⟨rfl, rfl⟩⟩
  | none =>
    obtain ⟨a1, a2, a3, a4, a5, a6⟩ := gNum_sg true l
    obtain ⟨_, _, _, _, _, b6⟩ := gNum_sg false l
    exact ⟨⟨a1, a2, a3, a4, a5⟩, fun h => ⟨a6 (a5.trans h), b6 h⟩⟩
theorem gText_le {c : Int} {s q : Bool} {d : List UInt8} {x : Int} (hx : -9223372036854775808 ≤ x ∧ x ≤ 9223372036854775807) : (gText c s q d x).length ≤ d.length + 30 := by
  have hi := Go.Lib.itoa_length_le x hx.1 hx.2
  have h1 : ((if s then [45] else []) : List UInt8).length ≤ 1 := by split <;> simp
  unfold gText
  split
  · unfold nanT
    have h2 : ((if q then [115] else []) : List UInt8).length ≤ 1 := by split <;> simp
    have h3 : (if d = [] then [] else 40 :: (d ++ [41])).length ≤ d.length + 2 := by split <;> simp
    rw [List.length_append]
    rcases Classical.em (c = 2) with h | h
    · rw [if_pos h]; simp only [List.length_cons, List.length_nil]; omega
    · rw [if_neg h]; simp only [List.length_append, List.length_cons, List.length_nil] at *; omega
  · have h2 : (if d = [] then [48] else d).length ≤ d.length + 1 := by split <;> simp
    have h3 : (if x = 0 then [] else 101 :: itoa x).length ≤ (itoa x).length + 1 := by split <;> simp
    simp only [List.length_append] at *
    omega
theorem gCut_dlen {l : List UInt8} (h : (gCut l).e = 0) : (gCut l).d.length ≤ l.length := by
  obtain ⟨h1, h2⟩ := gCut_ok h
  unfold gCut
  rw [if_neg (by omega)]
  have hs := sgnR_len l
  cases hw : gWord ((sgnR l).map lowB) with
  | none =>
    have := gNum_len (s := sgnN l) (m := sgnR l)
    dsimp only; omega
  | some v =>
    obtain ⟨c, q, d⟩ := v
    have := gWord_len hw
    rw [List.length_map] at this
    dsimp only; omega
theorem rd_good {l : List UInt8} (hl : l.length ≤ 3900) (h : (gCut l).e = 0) (s : Bool) : gGood (gCut l).c s (gCut l).q (gCut l).d (gCut l).x = true := by
  have hd := gCut_dlen h
  have hb := gCut_b h
  have ht := gText_le (c := (gCut l).c) (s := s) (q := (gCut l).q) (d := (gCut l).d) (x := (gCut l).x) ⟨by omega, by omega⟩
  have ht' : (gText (gCut l).c s (gCut l).q (gCut l).d (gCut l).x).length ≤ 4000 := by omega
  obtain ⟨_, h2⟩ := gCut_ok h
  unfold gGood
  rcases h2 with ⟨a, b, c, d, e⟩ | ⟨a, b, c, d⟩ | ⟨a, b, c⟩
  · rw [c, b]
    simp [a, d, e]
    rw [a, b] at ht'; exact ht'
  · rw [a, b, c, d]; simp [dgOk]
  · rw [a, c] at ht'
    rw [b, c, a]
    simp
    exact ht'
theorem okR_flip {n r : Int} (h : okR n r = true) : okR n (flipD r) = true := by
  unfold okR flipD at *
  simp only [Bool.and_eq_true, decide_eq_true_eq] at *
  refine ⟨h.1, ?_⟩
  split
  · omega
  · split <;> omega
theorem flip_lo {r : Int} (h : 0 ≤ r ∧ r ≤ 4) (h2 : ¬ r = 3) (h3 : ¬ r = 4) : flipD r = r := by unfold flipD; rw [if_neg h2, if_neg h3]
theorem rd_turn {n r : Int} {l : List UInt8} (hn : 1 ≤ n ∧ n ≤ 6) (hR : okR n r = true) (hl : l.length ≤ 3000) (h1 : ¬ l.head? = some 45) (h2 : ¬ l.head? = some 43) :
    rdE n (flipD r) (45 :: l) = rdE n r l ∧ (rdE n r l = 0 → rdF n (flipD r) (45 :: l) = rdF n r l ∧ ∃ cl q C ex, isD n cl q C ex ∧ rdV n r l = packS n cl false q C ex ∧ rdV n (flipD r) (45 :: l) = packS n cl true q C ex) := by
  have hR' := okR_flip hR
  obtain ⟨⟨a1, a2, a3, a4, a5⟩, a6⟩ := gCut_sg (l := l) (by omega) h1 h2
  by_cases he : (gCut l).e = 0
  · have he' : (gCut (45 :: l)).e = 0 := a5.trans he
    obtain ⟨s1, s2⟩ := a6 he
    have G1 := rd_good (l := l) (by omega) he false
    have G2 := rd_good (l := 45 :: l) (by rw [List.length_cons]; omega) he' true
    rw [(rd_ok hR he).1, (rd_ok hR he).2.1, (rd_ok hR he).2.2, (rd_ok hR' he').1, (rd_ok hR' he').2.1, (rd_ok hR' he').2.2, s1, s2]
    rw [a1, a2, a3, a4] at *
    rw [mk_ok hR G1, mk_ok hR' G2]
    refine ⟨rfl, fun _ => ?_⟩
    have hk := (good_len G1).2.1
    generalize (gCut l).c = c at *
    generalize (gCut l).q = q at *
    generalize (gCut l).d = d at *
    generalize (gCut l).x = x at *
    rcases hk with rfl | rfl | rfl
    · obtain rfl := good_1 G1
      rw [(mk_1 hR G1).1, (mk_1 hR G1).2, (mk_1 hR' G2).1, (mk_1 hR' G2).2]
      refine ⟨rndF_flip n r false _ _ _, ?_⟩
      obtain ⟨cl, C, ex, k1, k2, k3⟩ := rnd_dat (n := n) r false (x := tenX 11000 d x) (y := tenY 11000 x) (e := 0) hn (tenY_pos _ _)
      exact ⟨cl, false, C, ex, k1, k2, k3⟩
    · obtain ⟨rfl, rfl, rfl⟩ := good_2 G1
      rw [(mk_2 hR G1).1, (mk_2 hR G1).2, (mk_2 hR' G2).1, (mk_2 hR' G2).2]
      exact ⟨rfl, 2, false, 0, 0, inf_isD n, rfl, rfl⟩
    · obtain rfl := good_3 G1
      rw [(mk_3 hR G1).1, (mk_3 hR G1).2, (mk_3 hR' G2).1, (mk_3 hR' G2).2]
      exact ⟨rfl, 3, q, _, 0, pay_isD hn (dv d), rfl, rfl⟩
  · have he' : ¬ (gCut (45 :: l)).e = 0 := fun h => he (a5.symm.trans h)
    rw [(rd_bad hR he).1, (rd_bad hR' he').1, a5]
    exact ⟨rfl, fun h => absurd h he⟩
theorem hd_ne {l : List UInt8} {c : UInt8} (h : ¬ ((l.getD 0 0).toNat : Int) = (c.toNat : Int)) : ¬ l.head? = some c := fun hc => h (by
  match l, hc with
  | x :: r, hc =>
    simp only [List.head?_cons, Option.some.injEq] at hc
    rw [List.getD_cons_zero, hc])
end Go.AM.LN
