/- Part of the proof: own text. -/
import Derived.Test.YthdbkmpkebdliaaGreatDoorKF0
set_option linter.all false
set_option maxHeartbeats 20000000
set_option maxRecDepth 20000
namespace Go.AM.LN
open Go Go.Lib
theorem far_eqM {n r : Int} {s : Bool} {d : List UInt8} {x M : Int} (hn : 1 ≤ n ∧ n ≤ 6) (hM : 11000 ≤ M) (hd : dv d < 10 ^ 4000) :
    rndV n r s (tenX M d x) (tenY M x) 0 = rndV n r s (tenX 11000 d x) (tenY 11000 x) 0 ∧ rndF n r s (tenX M d x) (tenY M x) 0 = rndF n r s (tenX 11000 d x) (tenY 11000 x) 0 := by
  unfold tenX tenY
  rcases Nat.eq_zero_or_pos (dv d) with h0 | h0
  · rw [h0, Nat.zero_mul, Nat.zero_mul]
    rw [(rnd_zero (n := n) (d := r) (s := s) (e := 0) rfl).1, (rnd_zero (n := n) (d := r) (s := s) (e := 0) rfl).2, (rnd_zero (n := n) (d := r) (s := s) (e := 0) rfl).1, (rnd_zero (n := n) (d := r) (s := s) (e := 0) rfl).2]
    exact ⟨rfl, rfl⟩
  · have hb := blen10 hd
    have hcase : (-11000 ≤ x ∧ x ≤ 11000) ∨ 11000 < x ∨ x < -11000 := by omega
    rcases hcase with hc | hc | hc
    · have e1 : clE M x = clE 11000 x := by unfold clE; omega
      rw [e1]; exact ⟨rfl, rfl⟩
    · have e1 : (-clE M x).toNat = 0 := by unfold clE; omega
      have e2 : (-clE 11000 x).toNat = 0 := by unfold clE; omega
      rw [e1, e2, Nat.pow_zero]
      have key : ∀ k : Nat, 11000 ≤ k → 33000 < blen (dv d * 10 ^ k) := fun k hk => by
        have h1 : 10 ^ k ≤ dv d * 10 ^ k := by
          have := Nat.mul_le_mul_right (10 ^ k) h0
          omega
        have h2 := blen_le.2 (Nat.le_trans (pow_8_10 k) h1)
        omega
      have k1 := rnd_big (n := n) (d := r) (s := s) hn (key (clE M x).toNat (by unfold clE; omega))
      have k2 := rnd_big (n := n) (d := r) (s := s) hn (key (clE 11000 x).toNat (by unfold clE; omega))
      rw [k1.1, k1.2, k2.1, k2.2]
      exact ⟨rfl, rfl⟩
    · have e1 : (clE M x).toNat = 0 := by unfold clE; omega
      have e2 : (clE 11000 x).toNat = 0 := by unfold clE; omega
      rw [e1, e2, Nat.pow_zero, Nat.mul_one]
      obtain ⟨a1, a2, a3⟩ := rnd_tiny (n := n) (d := r) (s := s) hn h0 (big10 (k := (-clE M x).toNat) (by unfold clE; omega)).2 (by omega)
      obtain ⟨b1, b2, b3⟩ := rnd_tiny (n := n) (d := r) (s := s) hn h0 (big10 (k := (-clE 11000 x).toNat) (by unfold clE; omega)).2 (by omega)
      unfold rndV rndF rq2 rc
      rw [a2, a3, b2, b3, if_pos a1, if_pos b1]
      exact ⟨rfl, rfl⟩
theorem dv_zeros (k : Nat) : dv (List.replicate k 48) = 0 := by
  induction k with
  | zero => rfl
  | succ k ih => rw [List.replicate_succ, dv_0, ih]
theorem zeros_all (k : Nat) : (List.replicate k (48 : UInt8)).all isDg = true := by
  rw [List.all_eq_true]
  intro c hc
  rw [List.eq_of_mem_replicate hc]; rfl
theorem dgOk_zeros {d : List UInt8} (h : dgOk d = true) (hne : d ≠ []) (k : Nat) : dgOk (d ++ List.replicate k 48) = true := by
  match d, hne with
  | c :: r, _ =>
    have e : (c :: r ++ List.replicate k 48).head? = (c :: r).head? := rfl
    unfold dgOk at *
    rw [List.all_append, zeros_all, Bool.and_true, e]
    exact h
theorem good_num {s : Bool} {d : List UInt8} {x : Int} (hd : dgOk d = true) (hl : d.length ≤ 3900) (hx : -1000000000 ≤ x ∧ x ≤ 1000000000) : gGood 1 s false d x = true := by
  have ht := gText_le (c := 1) (s := s) (q := false) (d := d) (x := x) ⟨by omega, by omega⟩
  unfold gGood
  rw [hd]
  simp [hx]
  omega
theorem spelt {n r : Int} {s : Bool} {d : List UInt8} {x : Int} {k : Nat} (hn : 1 ≤ n ∧ n ≤ 6) (hR : okR n r = true) (hd : dgOk d = true) (hl : d.length ≤ 100) (hne : d ≠ []) (hk : k ≤ 30) (hx : -40000 ≤ x ∧ x ≤ 40000) :
    mkE n r 1 s false (d ++ List.replicate k 48) (x - k) = 0 ∧ mkV n r 1 s false (d ++ List.replicate k 48) (x - k) = mkV n r 1 s false d x ∧ mkF n r 1 s false (d ++ List.replicate k 48) (x - k) = mkF n r 1 s false d x := by
  have G1 : gGood 1 s false d x = true := good_num hd (by omega) ⟨by omega, by omega⟩
  have G2 : gGood 1 s false (d ++ List.replicate k 48) (x - k) = true := good_num (dgOk_zeros hd hne k) (by rw [List.length_append, List.length_replicate]; omega) ⟨by omega, by omega⟩
  refine ⟨mk_ok hR G2, ?_⟩
  rw [(mk_1 hR G1).1, (mk_1 hR G1).2, (mk_1 hR G2).1, (mk_1 hR G2).2]
  have ha := (dgOk_id hd).2
  have b1 : dv d < 10 ^ 4000 := Nat.lt_of_lt_of_le (dv_lt d ha) (p10 d.length 4000 (by omega))
  have hz : (d ++ List.replicate k 48).all isDg = true := (dgOk_id (dgOk_zeros hd hne k)).2
  have b2 : dv (d ++ List.replicate k 48) < 10 ^ 4000 := Nat.lt_of_lt_of_le (dv_lt _ hz) (p10 _ 4000 (by rw [List.length_append, List.length_replicate]; omega))
  obtain ⟨f1, f2⟩ := far_eqM (n := n) (r := r) (s := s) (x := x) (M := 100000) hn (by decide) b1
  obtain ⟨f3, f4⟩ := far_eqM (n := n) (r := r) (s := s) (x := x - k) (M := 100000) hn (by decide) b2
  rw [← f1, ← f2, ← f3, ← f4]
  have c1 : clE 100000 x = x := by unfold clE; omega
  have c2 : clE 100000 (x - k) = x - k := by unfold clE; omega
  refine rnd_same (tenY_pos _ _) (tenY_pos _ _) ?_
  unfold tenX tenY
  rw [c1, c2, dv_app, dv_zeros, List.length_replicate, Nat.add_zero, Nat.mul_assoc, Nat.mul_assoc, Nat.mul_assoc, ← Nat.pow_add, ← Nat.pow_add, ← Nat.pow_add]
  congr 2
  omega
theorem spelt_rd {n r : Int} {s : Bool} {d : List UInt8} {x : Int} (hR : okR n r = true) (hd : dgOk d = true) (hl : d.length ≤ 100) (hx : -40000 ≤ x ∧ x ≤ 40000) :
    mkE n r 1 s false d x = 0 ∧ gGood 1 s false d x = true ∧ rdE n r (gText 1 s false d x) = 0 ∧ rdV n r (gText 1 s false d x) = mkV n r 1 s false d x ∧ rdF n r (gText 1 s false d x) = mkF n r 1 s false d x := by
  have G1 : gGood 1 s false d x = true := good_num hd (by omega) ⟨by omega, by omega⟩
  have hc := (join_iff 1 s false d x).2 G1
  have he : (gCut (gText 1 s false d x)).e = 0 := by rw [hc]
  obtain ⟨h1, h2, h3⟩ := rd_ok (l := gText 1 s false d x) hR he
  rw [hc] at h1 h2 h3
  exact ⟨mk_ok hR G1, G1, h1.trans (mk_ok hR G1), h2, h3⟩
def qD (d : List UInt8) (j : Nat) : List UInt8 := if d = [] then [] else d ++ List.replicate j 48
def qX (d : List UInt8) (x : Int) (j : Nat) : Int := if d = [] then x else x - j
theorem q_0 (d : List UInt8) (x : Int) : qD d 0 = d ∧ qX d x 0 = x := by
  unfold qD qX
  by_cases h : d = []
  · rw [if_pos h, if_pos h, h]; exact ⟨rfl, rfl⟩
  · rw [if_neg h, if_neg h]; simp
theorem q_step {d : List UInt8} (h : ¬ d = []) (x : Int) (j : Nat) : qD d j ++ [48] = qD d (j + 1) ∧ qX d x j - 1 = qX d x (j + 1) := by
  unfold qD qX
  rw [if_neg h, if_neg h, if_neg h, if_neg h, List.append_assoc, List.replicate_succ']
  exact ⟨rfl, by omega⟩
theorem q_stay {d : List UInt8} (h : d = []) (x : Int) (j : Nat) : qD d j = qD d (j + 1) ∧ qX d x j = qX d x (j + 1) := by
  unfold qD qX
  rw [if_pos h, if_pos h, if_pos h, if_pos h]
  exact ⟨rfl, rfl⟩
theorem q_len {d : List UInt8} (x : Int) (j : Nat) : (qD d j).length ≤ d.length + j ∧ x - j ≤ qX d x j ∧ qX d x j ≤ x := by
  unfold qD qX
  by_cases h : d = []
  · rw [if_pos h, if_pos h]; simp; omega
  · rw [if_neg h, if_neg h]; simp; omega
theorem q_make {n r : Int} {s : Bool} {d : List UInt8} {x : Int} {k : Nat} (hn : 1 ≤ n ∧ n ≤ 6) (hR : okR n r = true) (hd : dgOk d = true) (hl : d.length ≤ 100) (hk : k ≤ 30) (hx : -40000 ≤ x ∧ x ≤ 40000) :
    mkE n r 1 s false (qD d k) (qX d x k) = 0 ∧ mkV n r 1 s false (qD d k) (qX d x k) = mkV n r 1 s false d x ∧ mkF n r 1 s false (qD d k) (qX d x k) = mkF n r 1 s false d x := by
  by_cases h : d = []
  · unfold qD qX
    rw [if_pos h, if_pos h, h]
    exact ⟨(spelt_rd hR (by rfl) (by decide) hx).1, rfl, rfl⟩
  · unfold qD qX
    rw [if_neg h, if_neg h]
    exact spelt hn hR hd hl h hk hx
theorem decS_w64 {W : Nat} (h : W < 18446744073709551616) : (decS W).length ≤ 20 := decS_len (k := 20) (by omega) (by decide)
end Go.AM.LN
