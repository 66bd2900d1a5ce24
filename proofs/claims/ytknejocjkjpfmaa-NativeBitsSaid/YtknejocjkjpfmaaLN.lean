/- Part LN of the proof: own text. -/
set_option linter.all false
namespace Go.AM.LN
/-- The number that a list of words is. -/
def val : List Int → Nat
  | [] => 0
  | x :: r => x.toNat + 18446744073709551616 * val r
def lim (a : List Int) : Prop := ∀ x ∈ a, 0 ≤ x ∧ x < 18446744073709551616
/-- Words up to the highest one that isn't 0. -/
def sz : List Int → Nat
  | [] => 0
  | x :: r => if sz r = 0 then (if x = 0 then 0 else 1) else sz r + 1
def limbsF : Nat → Nat → List Int
  | 0, _ => []
  | k + 1, n => if n = 0 then [] else ((n % 18446744073709551616 : Nat) : Int) :: limbsF k (n / 18446744073709551616)
def limbs (n : Nat) : List Int := limbsF n n
def blen (n : Nat) : Nat := if n = 0 then 0 else n.log2 + 1

theorem limbsF_eq : ∀ (k n : Nat), n ≤ k → limbsF k n = limbs n := by
  have key : ∀ (k j n : Nat), n ≤ k → n ≤ j → limbsF k n = limbsF j n := by
    intro k
    induction k with
    | zero => intro j n h _; have : n = 0 := by omega
              subst this; cases j <;> simp [limbsF]
    | succ k ih =>
      intro j n h hj
      cases j with
      | zero => have : n = 0 := by omega
                subst this; simp [limbsF]
      | succ j =>
        simp only [limbsF]
        split
        · rfl
        · rw [ih j _ (by omega) (by omega)]
  intro k n h
  exact key k n n h (Nat.le_refl _)
theorem limbs_zero : limbs 0 = [] := rfl
theorem limbs_pos {n : Nat} (h : n ≠ 0) : limbs n = ((n % 18446744073709551616 : Nat) : Int) :: limbs (n / 18446744073709551616) := by
  obtain ⟨m, rfl⟩ : ∃ m, n = m + 1 := ⟨n - 1, by omega⟩
  show limbsF (m + 1) (m + 1) = _
  simp only [limbsF, h, if_false]
  rw [limbsF_eq _ _ (by omega)]
theorem val_limbs : ∀ n : Nat, val (limbs n) = n := by
  intro n
  induction n using Nat.strongRecOn with
  | _ n ih =>
    by_cases h : n = 0
    · subst h; rfl
    · rw [limbs_pos h, val, ih _ (by omega)]
      omega
theorem lim_limbs : ∀ n : Nat, lim (limbs n) := by
  intro n
  induction n using Nat.strongRecOn with
  | _ n ih =>
    by_cases h : n = 0
    · subst h; intro x hx; cases hx
    · rw [limbs_pos h]
      intro x hx
      rcases List.mem_cons.1 hx with rfl | hx
      · omega
      · exact ih _ (by omega) x hx
theorem lim_nil : lim [] := fun x hx => by cases hx
theorem lim_cons {x : Int} {r : List Int} : lim (x :: r) ↔ (0 ≤ x ∧ x < 18446744073709551616) ∧ lim r := by
  simp [lim]
theorem lim_app {a b : List Int} : lim (a ++ b) ↔ lim a ∧ lim b := by
  simp only [lim, List.mem_append]
  exact ⟨fun h => ⟨fun x hx => h x (.inl hx), fun x hx => h x (.inr hx)⟩, fun h x hx => hx.elim (h.1 x) (h.2 x)⟩
theorem lim_take {a : List Int} (h : lim a) (n : Nat) : lim (a.take n) := fun x hx => h x (List.mem_of_mem_take hx)
theorem lim_drop {a : List Int} (h : lim a) (n : Nat) : lim (a.drop n) := fun x hx => h x (List.mem_of_mem_drop hx)
theorem lim_rep (n : Nat) : lim (List.replicate n 0) := fun x hx => by
  have := List.eq_of_mem_replicate hx; omega
theorem lim_get {a : List Int} (h : lim a) {i : Nat} : 0 ≤ a.getD i 0 ∧ a.getD i 0 < 18446744073709551616 := by
  by_cases hi : i < a.length
  · have : a.getD i 0 = a[i] := by simp [List.getD, List.getElem?_eq_getElem hi]
    rw [this]; exact h _ (List.getElem_mem hi)
  · have : a.getD i 0 = 0 := by simp [List.getD, List.getElem?_eq_none (by omega : a.length ≤ i)]
    rw [this]; omega
theorem lim_set {a : List Int} (h : lim a) {x : Int} (hx : 0 ≤ x ∧ x < 18446744073709551616) (i : Nat) : lim (a.set i x) := by
  intro y hy
  rcases List.mem_or_eq_of_mem_set hy with h1 | rfl
  · exact h y h1
  · exact hx
theorem p64 (n : Nat) : (2:Nat) ^ (64 * (n + 1)) = 18446744073709551616 * 2 ^ (64 * n) := by
  rw [show 64 * (n + 1) = 64 + 64 * n by omega, Nat.pow_add]
theorem val_app : ∀ (a b : List Int), val (a ++ b) = val a + 2 ^ (64 * a.length) * val b
  | [], b => by simp [val]
  | x :: r, b => by
    simp only [List.cons_append, val, List.length_cons, val_app r b, p64]
    rw [Nat.mul_add, Nat.mul_assoc]
    omega
theorem val_lt : ∀ {a : List Int}, lim a → val a < 2 ^ (64 * a.length)
  | [], _ => by simp [val]
  | x :: r, h => by
    rw [lim_cons] at h
    have := val_lt h.2
    simp only [val, List.length_cons, p64]
    omega
theorem val_rep : ∀ n : Nat, val (List.replicate n 0) = 0
  | 0 => rfl
  | n + 1 => by simp [List.replicate_succ, val, val_rep n]
theorem sz_le : ∀ a : List Int, sz a ≤ a.length
  | [] => Nat.le_refl _
  | x :: r => by
    have := sz_le r
    simp only [sz, List.length_cons]
    split
    · split <;> omega
    · omega
theorem sz_zero : ∀ {a : List Int}, lim a → (sz a = 0 ↔ val a = 0)
  | [], _ => by simp [sz, val]
  | x :: r, h => by
    rw [lim_cons] at h
    have := sz_zero h.2
    simp only [sz, val]
    split
    · split <;> omega
    · omega
theorem take_sz : ∀ {a : List Int}, lim a → a.take (sz a) = limbs (val a)
  | [], _ => rfl
  | x :: r, h => by
    rw [lim_cons] at h
    have h1 := sz_zero h.2
    have h2 := take_sz h.2
    simp only [sz, val]
    split
    · rename_i h0
      have hv := h1.1 h0
      rw [hv]
      split
      · rename_i hx; subst hx; rfl
      · rename_i hx
        rw [limbs_pos (by omega)]
        have e1 : (x.toNat + 18446744073709551616 * 0) / 18446744073709551616 = 0 := by omega
        rw [e1, limbs_zero]
        simp
        omega
    · rename_i h0
      rw [limbs_pos (by omega)]
      have e1 : (x.toNat + 18446744073709551616 * val r) / 18446744073709551616 = val r := by omega
      rw [e1, List.take_succ_cons, h2]
      congr 1
      omega
theorem sz_limbs : ∀ n : Nat, sz (limbs n) = (limbs n).length := by
  intro n
  induction n using Nat.strongRecOn with
  | _ n ih =>
    by_cases h : n = 0
    · subst h; rfl
    · rw [limbs_pos h]
      have := ih (n / 18446744073709551616) (by omega)
      have h1 := sz_zero (lim_limbs (n / 18446744073709551616))
      rw [val_limbs] at h1
      simp only [sz, List.length_cons]
      split
      · rename_i h0
        have := h1.1 h0
        split
        · omega
        · rw [this, limbs_zero]; rfl
      · omega
theorem len_limbs_sz {a : List Int} (h : lim a) : (limbs (val a)).length = sz a := by
  rw [← take_sz h, List.length_take]; have := sz_le a; omega
theorem limbs_val {a : List Int} (h : lim a) (hs : sz a = a.length) : limbs (val a) = a := by
  rw [← take_sz h, hs, List.take_length]
theorem limbs_of_lt {n : Nat} (h0 : n ≠ 0) (h : n < 18446744073709551616) : limbs n = [(n : Int)] := by
  rw [limbs_pos h0, Nat.mod_eq_of_lt h, Nat.div_eq_of_lt h, limbs_zero]
theorem sz_eq {a : List Int} (n : Nat) (hn : n ≤ a.length) (h0 : ∀ i, n ≤ i → a.getD i 0 = 0) (h1 : n = 0 ∨ a.getD (n - 1) 0 ≠ 0) : sz a = n := by
  induction a generalizing n with
  | nil => simp at hn; simp [sz, hn]
  | cons x r ih =>
    cases n with
    | zero =>
      have := ih 0 (Nat.zero_le _) (fun i _ => by simpa using h0 (i + 1) (by omega)) (.inl rfl)
      have hx := h0 0 (by omega)
      simp at hx
      simp [sz, this, hx]
    | succ n =>
      have h2 : n = 0 ∨ r.getD (n - 1) 0 ≠ 0 := by
        cases n with
        | zero => exact .inl rfl
        | succ n => right; rcases h1 with h1 | h1; omega
                    simpa using h1
      have := ih n (by simpa using hn) (fun i hi => by simpa using h0 (i + 1) (by omega)) h2
      simp only [sz, this]
      split
      · rename_i hz; subst hz
        rcases h1 with h1 | h1
        · omega
        · simp at h1; simp [h1]
      · rfl
theorem sz_getD {a : List Int} : ∀ i, sz a ≤ i → a.getD i 0 = 0 := by
  induction a with
  | nil => intro i _; simp
  | cons x r ih =>
    intro i h
    simp only [sz] at h
    cases i with
    | zero =>
      split at h
      · split at h
        · rename_i hx; simp [hx]
        · omega
      · omega
    | succ i =>
      simp only [List.getD_cons_succ]
      apply ih
      split at h
      · omega
      · omega
theorem sz_top {a : List Int} (h : sz a ≠ 0) : a.getD (sz a - 1) 0 ≠ 0 := by
  induction a with
  | nil => simp [sz] at h
  | cons x r ih =>
    simp only [sz] at h ⊢
    split
    · rename_i h0
      rw [if_pos h0] at h
      split
      · rename_i hx; rw [if_pos hx] at h; exact absurd rfl h
      · rename_i hx; simpa using hx
    · rename_i h0
      have := ih h0
      rw [show sz r + 1 - 1 = (sz r - 1) + 1 by omega]
      simpa using this
/-! bits -/
theorem blen_lt {n k : Nat} : blen n ≤ k ↔ n < 2 ^ k := by
  unfold blen
  split
  · rename_i h; subst h; exact ⟨fun _ => Nat.two_pow_pos k, fun _ => Nat.zero_le _⟩
  · rename_i h
    rw [← Nat.log2_lt h]
    omega
theorem blen_le {n k : Nat} : k < blen n ↔ 2 ^ k ≤ n := by
  have := @blen_lt n k
  omega
theorem blen_zero {n : Nat} : blen n = 0 ↔ n = 0 := by
  have := @blen_lt n 0
  omega
theorem blen_eq {n k : Nat} (h1 : 2 ^ k ≤ n) (h2 : n < 2 ^ (k + 1)) : blen n = k + 1 := by
  have a := blen_le.2 h1
  have b := blen_lt.2 h2
  omega
theorem blen_mul {n : Nat} (h : n ≠ 0) (k : Nat) : blen (n * 2 ^ k) = blen n + k := by
  obtain ⟨j, hj⟩ : ∃ j, blen n = j + 1 := ⟨blen n - 1, by have := @blen_zero n; omega⟩
  have h1 : 2 ^ j ≤ n := blen_le.1 (by omega)
  have h2 : n < 2 ^ (j + 1) := blen_lt.1 (by omega)
  rw [blen_eq (k := j + k), hj]
  · omega
  · rw [Nat.pow_add]; exact Nat.mul_le_mul_right _ h1
  · rw [show j + k + 1 = (j + 1) + k by omega, Nat.pow_add]
    exact Nat.mul_lt_mul_of_pos_right h2 (Nat.two_pow_pos k)
theorem blen_mono {m n : Nat} (h : m ≤ n) : blen m ≤ blen n := by
  rw [blen_lt]; exact Nat.lt_of_le_of_lt h (blen_lt.1 (Nat.le_refl _))
theorem len_limbs (n : Nat) : (limbs n).length = (blen n + 63) / 64 := by
  induction n using Nat.strongRecOn with
  | _ n ih =>
    by_cases h : n = 0
    · subst h; rfl
    · rw [limbs_pos h, List.length_cons, ih _ (by omega)]
      by_cases h2 : n / 18446744073709551616 = 0
      · have h3 : blen n ≤ 64 := blen_lt.2 (by omega)
        have h4 : blen n ≠ 0 := fun hh => h (blen_zero.1 hh)
        rw [h2]
        have : blen 0 = 0 := rfl
        omega
      · have : blen n = blen (n / 18446744073709551616) + 64 := by
          obtain ⟨j, hj⟩ : ∃ j, blen (n / 18446744073709551616) = j + 1 := ⟨blen (n / 18446744073709551616) - 1, by have := @blen_zero (n / 18446744073709551616); omega⟩
          have h1 : 2 ^ j ≤ n / 18446744073709551616 := blen_le.1 (by omega)
          have h3 : n / 18446744073709551616 < 2 ^ (j + 1) := blen_lt.1 (by omega)
          rw [hj, show j + 1 + 64 = (j + 64) + 1 by omega]
          apply blen_eq
          · rw [Nat.pow_add]; have := Nat.div_add_mod n 18446744073709551616
            have e : (2:Nat) ^ 64 = 18446744073709551616 := rfl
            rw [e]; omega
          · rw [show j + 64 + 1 = (j + 1) + 64 by omega, Nat.pow_add]
            have e : (2:Nat) ^ 64 = 18446744073709551616 := rfl
            rw [e]; omega
        omega
theorem val_getD : ∀ (a : List Int) (i : Nat), lim a → val a / 2 ^ (64 * i) % 18446744073709551616 = (a.getD i 0).toNat
  | [], i, _ => by simp [val]
  | x :: r, i, h => by
    rw [lim_cons] at h
    cases i with
    | zero => simp [val]; omega
    | succ i =>
      simp only [val, List.getD_cons_succ, p64]
      rw [← Nat.div_div_eq_div_mul, show (x.toNat + 18446744073709551616 * val r) / 18446744073709551616 = val r by omega]
      exact val_getD r i h.2
theorem val_take : ∀ (a : List Int) (i : Nat), lim a → val (a.take i) = val a % 2 ^ (64 * i)
  | a, 0, _ => by simp [val, Nat.mod_one]
  | [], i + 1, _ => by simp [val]
  | x :: r, i + 1, h => by
    rw [lim_cons] at h
    simp only [List.take_succ_cons, val, p64, val_take r i h.2]
    rw [Nat.mod_mul, show (x.toNat + 18446744073709551616 * val r) % 18446744073709551616 = x.toNat by omega, show (x.toNat + 18446744073709551616 * val r) / 18446744073709551616 = val r by omega]
theorem val_drop : ∀ (a : List Int) (i : Nat), lim a → val (a.drop i) = val a / 2 ^ (64 * i)
  | a, 0, _ => by simp
  | [], i + 1, _ => by simp [val]
  | x :: r, i + 1, h => by
    rw [lim_cons] at h
    simp only [List.drop_succ_cons, val, p64, val_drop r i h.2]
    rw [← Nat.div_div_eq_div_mul, show (x.toNat + 18446744073709551616 * val r) / 18446744073709551616 = val r by omega]
theorem val_snoc (a : List Int) (x : Int) : val (a ++ [x]) = val a + 2 ^ (64 * a.length) * x.toNat := by
  rw [val_app]; simp [val]
theorem take_succ {a : List Int} {i : Nat} (h : i < a.length) : a.take (i + 1) = a.take i ++ [a.getD i 0] := by
  rw [List.take_succ, List.getD, List.getElem?_eq_getElem h]; simp
theorem val_take_succ {a : List Int} {i : Nat} (h : i < a.length) : val (a.take (i + 1)) = val (a.take i) + 2 ^ (64 * i) * (a.getD i 0).toNat := by
  rw [take_succ h, val_snoc, List.length_take]
  congr 4
  omega
theorem val_inj {a b : List Int} (ha : lim a) (hb : lim b) (hl : a.length = b.length) (h : val a = val b) : a = b := by
  induction a generalizing b with
  | nil => cases b with
    | nil => rfl
    | cons _ _ => simp at hl
  | cons x r ih => cases b with
    | nil => simp at hl
    | cons y s =>
      rw [lim_cons] at ha hb
      simp only [val] at h
      have e : val r = val s := by omega
      rw [ih ha.2 hb.2 (by simpa using hl) e]
      congr 1
      omega
end Go.AM.LN
