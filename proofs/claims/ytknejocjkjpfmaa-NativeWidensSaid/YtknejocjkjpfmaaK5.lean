/- Part 5 of the proof: own text (LN, AmUn, AmW, BitL, AmWD, AmLv, AmLw, AmSS, A1, LN2, A2, LN3). -/
import Derived.Test.YtknejocjkjpfmaaK0
import Derived.Test.YtknejocjkjpfmaaK1
import Derived.Test.YtknejocjkjpfmaaK2
import Derived.Test.YtknejocjkjpfmaaK3
import Derived.Test.YtknejocjkjpfmaaK4
set_option linter.all false
namespace Go.AM.LN
/-- The number that a list of words is. -/
def val : List Int → Nat
  | [] => 0
  | x :: r => x.toNat + 18446744073709551616 * val r
def lim (a : List Int) : Prop := ∀ x ∈ a, 0 ≤ x ∧ x < 18446744073709551616
/-- Words up to the highest one that isn't 0. -/
def sz : List Int → Nat
  | [] => 0
  | x :: r => if sz r = 0 then (if x = 0 then 0 else 1) else sz r + 1
def limbsF : Nat → Nat → List Int
  | 0, _ => []
  | k + 1, n => if n = 0 then [] else ((n % 18446744073709551616 : Nat) : Int) :: limbsF k (n / 18446744073709551616)
def limbs (n : Nat) : List Int := limbsF n n
def blen (n : Nat) : Nat := if n = 0 then 0 else n.log2 + 1

theorem limbsF_eq : ∀ (k n : Nat), n ≤ k → limbsF k n = limbs n := by
  have key : ∀ (k j n : Nat), n ≤ k → n ≤ j → limbsF k n = limbsF j n := by
    intro k
    induction k with
    | zero => intro j n h _; have : n = 0 := by omega
              subst this; cases j <;> simp [limbsF]
    | succ k ih =>
      intro j n h hj
      cases j with
      | zero => have : n = 0 := by omega
                subst this; simp [limbsF]
      | succ j =>
        simp only [limbsF]
        split
        · rfl
        · rw [ih j _ (by omega) (by omega)]
  intro k n h
  exact key k n n h (Nat.le_refl _)
theorem limbs_zero : limbs 0 = [] := rfl
theorem limbs_pos {n : Nat} (h : n ≠ 0) : limbs n = ((n % 18446744073709551616 : Nat) : Int) :: limbs (n / 18446744073709551616) := by
  obtain ⟨m, rfl⟩ : ∃ m, n = m + 1 := ⟨n - 1, by omega⟩
  show limbsF (m + 1) (m + 1) = _
  simp only [limbsF, h, if_false]
  rw [limbsF_eq _ _ (by omega)]
theorem val_limbs : ∀ n : Nat, val (limbs n) = n := by
  intro n
  induction n using Nat.strongRecOn with
  | _ n ih =>
    by_cases h : n = 0
    · subst h; rfl
    · rw [limbs_pos h, val, ih _ (by omega)]
      omega
theorem lim_limbs : ∀ n : Nat, lim (limbs n) := by
  intro n
  induction n using Nat.strongRecOn with
  | _ n ih =>
    by_cases h : n = 0
    · subst h; intro x hx; cases hx
    · rw [limbs_pos h]
      intro x hx
      rcases List.mem_cons.1 hx with rfl | hx
      · omega
      · exact ih _ (by omega) x hx
theorem lim_nil : lim [] := fun x hx => by cases hx
theorem lim_cons {x : Int} {r : List Int} : lim (x :: r) ↔ (0 ≤ x ∧ x < 18446744073709551616) ∧ lim r := by
  simp [lim]
theorem lim_app {a b : List Int} : lim (a ++ b) ↔ lim a ∧ lim b := by
  simp only [lim, List.mem_append]
  exact ⟨fun h => ⟨fun x hx => h x (.inl hx), fun x hx => h x (.inr hx)⟩, fun h x hx => hx.elim (h.1 x) (h.2 x)⟩
theorem lim_take {a : List Int} (h : lim a) (n : Nat) : lim (a.take n) := fun x hx => h x (List.mem_of_mem_take hx)
theorem lim_drop {a : List Int} (h : lim a) (n : Nat) : lim (a.drop n) := fun x hx => h x (List.mem_of_mem_drop hx)
theorem lim_rep (n : Nat) : lim (List.replicate n 0) := fun x hx => by
  have := List.eq_of_mem_replicate hx; omega
theorem lim_get {a : List Int} (h : lim a) {i : Nat} : 0 ≤ a.getD i 0 ∧ a.getD i 0 < 18446744073709551616 := by
  by_cases hi : i < a.length
  · have : a.getD i 0 = a[i] := by simp [List.getD, List.getElem?_eq_getElem hi]
    rw [this]; exact h _ (List.getElem_mem hi)
  · have : a.getD i 0 = 0 := by simp [List.getD, List.getElem?_eq_none (by omega : a.length ≤ i)]
    rw [this]; omega
theorem lim_set {a : List Int} (h : lim a) {x : Int} (hx : 0 ≤ x ∧ x < 18446744073709551616) (i : Nat) : lim (a.set i x) := by
  intro y hy
  rcases List.mem_or_eq_of_mem_set hy with h1 | rfl
  · exact h y h1
  · exact hx
theorem p64 (n : Nat) : (2:Nat) ^ (64 * (n + 1)) = 18446744073709551616 * 2 ^ (64 * n) := by
  rw [show 64 * (n + 1) = 64 + 64 * n by omega, Nat.pow_add]
theorem val_app : ∀ (a b : List Int), val (a ++ b) = val a + 2 ^ (64 * a.length) * val b
  | [], b => by simp [val]
  | x :: r, b => by
    simp only [List.cons_append, val, List.length_cons, val_app r b, p64]
    rw [Nat.mul_add, Nat.mul_assoc]
    omega
theorem val_lt : ∀ {a : List Int}, lim a → val a < 2 ^ (64 * a.length)
  | [], _ => by simp [val]
  | x :: r, h => by
    rw [lim_cons] at h
    have := val_lt h.2
    simp only [val, List.length_cons, p64]
    omega
theorem val_rep : ∀ n : Nat, val (List.replicate n 0) = 0
  | 0 => rfl
  | n + 1 => by simp [List.replicate_succ, val, val_rep n]
theorem sz_le : ∀ a : List Int, sz a ≤ a.length
  | [] => Nat.le_refl _
  | x :: r => by
    have := sz_le r
    simp only [sz, List.length_cons]
    split
    · split <;> omega
    · omega
theorem sz_zero : ∀ {a : List Int}, lim a → (sz a = 0 ↔ val a = 0)
  | [], _ => by simp [sz, val]
  | x :: r, h => by
    rw [lim_cons] at h
    have := sz_zero h.2
    simp only [sz, val]
    split
    · split <;> omega
    · omega
theorem take_sz : ∀ {a : List Int}, lim a → a.take (sz a) = limbs (val a)
  | [], _ => rfl
  | x :: r, h => by
    rw [lim_cons] at h
    have h1 := sz_zero h.2
    have h2 := take_sz h.2
    simp only [sz, val]
    split
    · rename_i h0
      have hv := h1.1 h0
      rw [hv]
      split
      · rename_i hx; subst hx; rfl
      · rename_i hx
        rw [limbs_pos (by omega)]
        have e1 : (x.toNat + 18446744073709551616 * 0) / 18446744073709551616 = 0 := by omega
        rw [e1, limbs_zero]
        simp
        omega
    · rename_i h0
      rw [limbs_pos (by omega)]
      have e1 : (x.toNat + 18446744073709551616 * val r) / 18446744073709551616 = val r := by omega
      rw [e1, List.take_succ_cons, h2]
      congr 1
      omega
theorem sz_limbs : ∀ n : Nat, sz (limbs n) = (limbs n).length := by
  intro n
  induction n using Nat.strongRecOn with
  | _ n ih =>
    by_cases h : n = 0
    · subst h; rfl
    · rw [limbs_pos h]
      have := ih (n / 18446744073709551616) (by omega)
      have h1 := sz_zero (lim_limbs (n / 18446744073709551616))
      rw [val_limbs] at h1
      simp only [sz, List.length_cons]
      split
      · rename_i h0
        have := h1.1 h0
        split
        · omega
        · rw [this, limbs_zero]; rfl
      · omega
theorem len_limbs_sz {a : List Int} (h : lim a) : (limbs (val a)).length = sz a := by
  rw [← take_sz h, List.length_take]; have := sz_le a; omega
theorem limbs_val {a : List Int} (h : lim a) (hs : sz a = a.length) : limbs (val a) = a := by
  rw [← take_sz h, hs, List.take_length]
theorem limbs_of_lt {n : Nat} (h0 : n ≠ 0) (h : n < 18446744073709551616) : limbs n = [(n : Int)] := by
  rw [limbs_pos h0, Nat.mod_eq_of_lt h, Nat.div_eq_of_lt h, limbs_zero]
theorem sz_eq {a : List Int} (n : Nat) (hn : n ≤ a.length) (h0 : ∀ i, n ≤ i → a.getD i 0 = 0) (h1 : n = 0 ∨ a.getD (n - 1) 0 ≠ 0) : sz a = n := by
  induction a generalizing n with
  | nil => simp at hn; simp [sz, hn]
  | cons x r ih =>
    cases n with
    | zero =>
      have := ih 0 (Nat.zero_le _) (fun i _ => by simpa using h0 (i + 1) (by omega)) (.inl rfl)
      have hx := h0 0 (by omega)
      simp at hx
      simp [sz, this, hx]
    | succ n =>
      have h2 : n = 0 ∨ r.getD (n - 1) 0 ≠ 0 := by
        cases n with
        | zero => exact .inl rfl
        | succ n => right; rcases h1 with h1 | h1; omega
                    simpa using h1
      have := ih n (by simpa using hn) (fun i hi => by simpa using h0 (i + 1) (by omega)) h2
      simp only [sz, this]
      split
      · rename_i hz; subst hz
        rcases h1 with h1 | h1
        · omega
        · simp at h1; simp [h1]
      · rfl
theorem sz_getD {a : List Int} : ∀ i, sz a ≤ i → a.getD i 0 = 0 := by
  induction a with
  | nil => intro i _; simp
  | cons x r ih =>
    intro i h
    simp only [sz] at h
    cases i with
    | zero =>
      split at h
      · split at h
        · rename_i hx; simp [hx]
        · omega
      · omega
    | succ i =>
      simp only [List.getD_cons_succ]
      apply ih
      split at h
      · omega
      · omega
theorem sz_top {a : List Int} (h : sz a ≠ 0) : a.getD (sz a - 1) 0 ≠ 0 := by
  induction a with
  | nil => simp [sz] at h
  | cons x r ih =>
    simp only [sz] at h ⊢
    split
    · rename_i h0
      rw [if_pos h0] at h
      split
      · rename_i hx; rw [if_pos hx] at h; exact absurd rfl h
      · rename_i hx; simpa using hx
    · rename_i h0
      have := ih h0
      rw [show sz r + 1 - 1 = (sz r - 1) + 1 by omega]
      simpa using this
/-! bits -/
theorem blen_lt {n k : Nat} : blen n ≤ k ↔ n < 2 ^ k := by
  unfold blen
  split
  · rename_i h; subst h; exact ⟨fun _ => Nat.two_pow_pos k, fun _ => Nat.zero_le _⟩
  · rename_i h
    rw [← Nat.log2_lt h]
    omega
theorem blen_le {n k : Nat} : k < blen n ↔ 2 ^ k ≤ n := by
  have := @blen_lt n k
  omega
theorem blen_zero {n : Nat} : blen n = 0 ↔ n = 0 := by
  have := @blen_lt n 0
  omega
theorem blen_eq {n k : Nat} (h1 : 2 ^ k ≤ n) (h2 : n < 2 ^ (k + 1)) : blen n = k + 1 := by
  have a := blen_le.2 h1
  have b := blen_lt.2 h2
  omega
theorem blen_mul {n : Nat} (h : n ≠ 0) (k : Nat) : blen (n * 2 ^ k) = blen n + k := by
  obtain ⟨j, hj⟩ : ∃ j, blen n = j + 1 := ⟨blen n - 1, by have := @blen_zero n; omega⟩
  have h1 : 2 ^ j ≤ n := blen_le.1 (by omega)
  have h2 : n < 2 ^ (j + 1) := blen_lt.1 (by omega)
  rw [blen_eq (k := j + k), hj]
  · omega
  · rw [Nat.pow_add]; exact Nat.mul_le_mul_right _ h1
  · rw [show j + k + 1 = (j + 1) + k by omega, Nat.pow_add]
    exact Nat.mul_lt_mul_of_pos_right h2 (Nat.two_pow_pos k)
theorem blen_mono {m n : Nat} (h : m ≤ n) : blen m ≤ blen n := by
  rw [blen_lt]; exact Nat.lt_of_le_of_lt h (blen_lt.1 (Nat.le_refl _))
theorem len_limbs (n : Nat) : (limbs n).length = (blen n + 63) / 64 := by
  induction n using Nat.strongRecOn with
  | _ n ih =>
    by_cases h : n = 0
    · subst h; rfl
    · rw [limbs_pos h, List.length_cons, ih _ (by omega)]
      by_cases h2 : n / 18446744073709551616 = 0
      · have h3 : blen n ≤ 64 := blen_lt.2 (by omega)
        have h4 : blen n ≠ 0 := fun hh => h (blen_zero.1 hh)
        rw [h2]
        have : blen 0 = 0 := rfl
        omega
      · have : blen n = blen (n / 18446744073709551616) + 64 := by
          obtain ⟨j, hj⟩ : ∃ j, blen (n / 18446744073709551616) = j + 1 := ⟨blen (n / 18446744073709551616) - 1, by have := @blen_zero (n / 18446744073709551616); omega⟩
          have h1 : 2 ^ j ≤ n / 18446744073709551616 := blen_le.1 (by omega)
          have h3 : n / 18446744073709551616 < 2 ^ (j + 1) := blen_lt.1 (by omega)
          rw [hj, show j + 1 + 64 = (j + 64) + 1 by omega]
          apply blen_eq
          · rw [Nat.pow_add]; have := Nat.div_add_mod n 18446744073709551616
            have e : (2:Nat) ^ 64 = 18446744073709551616 := rfl
            rw [e]; omega
          · rw [show j + 64 + 1 = (j + 1) + 64 by omega, Nat.pow_add]
            have e : (2:Nat) ^ 64 = 18446744073709551616 := rfl
            rw [e]; omega
        omega
theorem val_getD : ∀ (a : List Int) (i : Nat), lim a → val a / 2 ^ (64 * i) % 18446744073709551616 = (a.getD i 0).toNat
  | [], i, _ => by simp [val]
  | x :: r, i, h => by
    rw [lim_cons] at h
    cases i with
    | zero => simp [val]; omega
    | succ i =>
      simp only [val, List.getD_cons_succ, p64]
      rw [← Nat.div_div_eq_div_mul, show (x.toNat + 18446744073709551616 * val r) / 18446744073709551616 = val r by omega]
      exact val_getD r i h.2
theorem val_take : ∀ (a : List Int) (i : Nat), lim a → val (a.take i) = val a % 2 ^ (64 * i)
  | a, 0, _ => by simp [val, Nat.mod_one]
  | [], i + 1, _ => by simp [val]
  | x :: r, i + 1, h => by
    rw [lim_cons] at h
    simp only [List.take_succ_cons, val, p64, val_take r i h.2]
    rw [Nat.mod_mul, show (x.toNat + 18446744073709551616 * val r) % 18446744073709551616 = x.toNat by omega, show (x.toNat + 18446744073709551616 * val r) / 18446744073709551616 = val r by omega]
theorem val_drop : ∀ (a : List Int) (i : Nat), lim a → val (a.drop i) = val a / 2 ^ (64 * i)
  | a, 0, _ => by simp
  | [], i + 1, _ => by simp [val]
  | x :: r, i + 1, h => by
    rw [lim_cons] at h
    simp only [List.drop_succ_cons, val, p64, val_drop r i h.2]
    rw [← Nat.div_div_eq_div_mul, show (x.toNat + 18446744073709551616 * val r) / 18446744073709551616 = val r by omega]
theorem val_snoc (a : List Int) (x : Int) : val (a ++ [x]) = val a + 2 ^ (64 * a.length) * x.toNat := by
  rw [val_app]; simp [val]
theorem take_succ {a : List Int} {i : Nat} (h : i < a.length) : a.take (i + 1) = a.take i ++ [a.getD i 0] := by
  rw [List.take_succ, List.getD, List.getElem?_eq_getElem h]; simp
theorem val_take_succ {a : List Int} {i : Nat} (h : i < a.length) : val (a.take (i + 1)) = val (a.take i) + 2 ^ (64 * i) * (a.getD i 0).toNat := by
  rw [take_succ h, val_snoc, List.length_take]
  congr 4
  omega
theorem val_inj {a b : List Int} (ha : lim a) (hb : lim b) (hl : a.length = b.length) (h : val a = val b) : a = b := by
  induction a generalizing b with
  | nil => cases b with
    | nil => rfl
    | cons _ _ => simp at hl
  | cons x r ih => cases b with
    | nil => simp at hl
    | cons y s =>
      rw [lim_cons] at ha hb
      simp only [val] at h
      have e : val r = val s := by omega
      rw [ih ha.2 hb.2 (by simpa using hl) e]
      congr 1
      omega
end Go.AM.LN
namespace Go.AM
variable {ty : Ty} {Γ : Gam}
/-- Many ways come together here. -/
theorem awp_seq_j {Q : Post} {env : List (Nat × AV)} {mem : List (Nat × Ct × Bool)} {a b : Code} {ι : Type} (E : ι → List (Nat × AV)) (M : ι → List (Nat × Ct × Bool)) (hb : ∀ j, awp ty Γ b Q (E j) (M j))
    (ha : ∀ K : List (Nat × AV) → List (Nat × Ct × Bool) → Prop, (∀ env mem j, Ent env mem (E j) (M j) → K env mem) → awp ty Γ a (thenP K Q) env mem) : awp ty Γ (.seq a b) Q env mem := by
  refine awp_mono (c := a) (Q' := thenP (awp ty Γ b Q) Q) (fun x e m hx => ?_) (ha (fun e m => ∃ j, Ent e m (E j) (M j)) fun e m j h => ⟨j, h⟩)
  cases x with
  | normal =>
    obtain ⟨e0, m0, h0, j, h1⟩ := hx
    exact ⟨E j, M j, h0.trans h1, hb j⟩
  | exit j => exact hx
  | ret => exact hx
theorem awp_seq_e {Q : Post} {env : List (Nat × AV)} {mem : List (Nat × Ct × Bool)} {a b : Code} (E : List (Nat × AV)) (M : List (Nat × Ct × Bool)) (hb : awp ty Γ b Q E M)
    (ha : ∀ K : List (Nat × AV) → List (Nat × Ct × Bool) → Prop, (∀ env mem, Ent env mem E M → K env mem) → awp ty Γ a (thenP K Q) env mem) : awp ty Γ (.seq a b) Q env mem :=
  awp_seq_j (ι := Unit) (fun _ => E) (fun _ => M) (fun _ => hb) fun K hK => ha K fun env mem h => hK env mem () h
/-- A loop of at most n rounds, round by round. -/
def unrP (c : Code) (Q : Post) : Nat → Post
  | 0 => fun e env mem => match e with
    | .normal => False
    | e => Q e env mem
  | n + 1 => fun e env mem => match e with
    | .normal => awp ty Γ c (unrP c Q n) env mem
    | e => Q e env mem
theorem awp_unroll {c : Code} {Q : Post} (n : Nat) {env : List (Nat × AV)} {mem : List (Nat × Ct × Bool)} (h : awp ty Γ c (unrP (ty := ty) (Γ := Γ) c Q n) env mem) : awp ty Γ (.loop c) Q env mem := by
  refine ⟨{x : List (Nat × AV) × List (Nat × Ct × Bool) × Nat // awp ty Γ c (unrP (ty := ty) (Γ := Γ) c Q x.2.2) x.1 x.2.1}, fun x => x.1.1, fun x => x.1.2.1, fun x => x.1.2.2, ⟨(env, mem, n), h⟩, fun _ _ _ _ _ hr => hr, fun i => ?_⟩
  obtain ⟨⟨e, m, k⟩, hi⟩ := i
  refine awp_mono (fun x e' m' hx => ?_) hi
  cases k with
  | zero =>
    cases x with
    | normal => exact hx.elim
    | exit j => exact hx
    | ret => exact hx
  | succ k =>
    cases x with
    | normal => exact ⟨⟨(e', m', k), hx⟩, fun _ _ _ _ _ hr => hr, Nat.lt_succ_self k⟩
    | exit j => exact hx
    | ret => exact hx
end Go.AM
namespace Go.AM
section
variable {ty : Ty} {Γ : Gam} {env : List (Nat × AV)} {mem : List (Nat × Ct × Bool)} {d : Nat} {tt : TypeId} {pos : String} {after : Array Edge} {g : Option (Nat × Bool)} {k : List (Nat × AV) → List (Nat × Ct × Bool) → Prop}
theorem aOne_move {x : Operand} : aOne ty Γ ⟨some d, .move x, tt, pos, after, g⟩ env mem k = bindO (aStep ty Γ ⟨lk env, lk mem⟩ d (.move x)) fun a m => Chk (freshM (lk mem) d m) (k ((d, a) :: env) (m ++ mem)) := aOne_dst rfl
theorem aOne_assign {x : Operand} : aOne ty Γ ⟨some d, .assign x, tt, pos, after, g⟩ env mem k = bindO (aStep ty Γ ⟨lk env, lk mem⟩ d (.assign x)) fun a m => Chk (freshM (lk mem) d m) (k ((d, a) :: env) (m ++ mem)) := aOne_dst rfl
theorem aOne_pick {x y z : Operand} : aOne ty Γ ⟨some d, .pick x y z, tt, pos, after, g⟩ env mem k = bindO (aStep ty Γ ⟨lk env, lk mem⟩ d (.pick x y z)) fun a m => Chk (freshM (lk mem) d m) (k ((d, a) :: env) (m ++ mem)) := aOne_dst rfl
theorem aOne_alloc {t1 : TypeId} : aOne ty Γ ⟨some d, .alloc t1, tt, pos, after, g⟩ env mem k = bindO (aStep ty Γ ⟨lk env, lk mem⟩ d (.alloc t1)) fun a m => Chk (freshM (lk mem) d m) (k ((d, a) :: env) (m ++ mem)) := aOne_dst rfl
theorem aOne_box {t1 : TypeId} {x : Operand} : aOne ty Γ ⟨some d, .box t1 x, tt, pos, after, g⟩ env mem k = bindO (aStep ty Γ ⟨lk env, lk mem⟩ d (.box t1 x)) fun a m => Chk (freshM (lk mem) d m) (k ((d, a) :: env) (m ++ mem)) := aOne_dst rfl
theorem aOne_build {t1 : TypeId} {x : Array (Nat × Operand)} : aOne ty Γ ⟨some d, .build t1 x, tt, pos, after, g⟩ env mem k = bindO (aStep ty Γ ⟨lk env, lk mem⟩ d (.build t1 x)) fun a m => Chk (freshM (lk mem) d m) (k ((d, a) :: env) (m ++ mem)) := aOne_dst rfl
theorem aOne_buildSlice {t1 : TypeId} {n : Nat} {x : Array (Nat × Operand)} : aOne ty Γ ⟨some d, .buildSlice t1 n x, tt, pos, after, g⟩ env mem k = bindO (aStep ty Γ ⟨lk env, lk mem⟩ d (.buildSlice t1 n x)) fun a m => Chk (freshM (lk mem) d m) (k ((d, a) :: env) (m ++ mem)) := aOne_dst rfl
theorem aOne_load {t1 : TypeId} {x : Operand} : aOne ty Γ ⟨some d, .load t1 x, tt, pos, after, g⟩ env mem k = bindO (aStep ty Γ ⟨lk env, lk mem⟩ d (.load t1 x)) fun a m => Chk (freshM (lk mem) d m) (k ((d, a) :: env) (m ++ mem)) := aOne_dst rfl
theorem aOne_bin {o : BinOp} {t1 u : TypeId} {x y : Operand} : aOne ty Γ ⟨some d, .binOp o t1 x y u, tt, pos, after, g⟩ env mem k = bindO (aStep ty Γ ⟨lk env, lk mem⟩ d (.binOp o t1 x y u)) fun a m => Chk (freshM (lk mem) d m) (k ((d, a) :: env) (m ++ mem)) := aOne_dst rfl
theorem aOne_un {o : UnOp} {t1 : TypeId} {x : Operand} : aOne ty Γ ⟨some d, .unOp o t1 x, tt, pos, after, g⟩ env mem k = bindO (aStep ty Γ ⟨lk env, lk mem⟩ d (.unOp o t1 x)) fun a m => Chk (freshM (lk mem) d m) (k ((d, a) :: env) (m ++ mem)) := aOne_dst rfl
theorem aOne_conv {t1 u : TypeId} {x : Operand} : aOne ty Γ ⟨some d, .convert t1 u x, tt, pos, after, g⟩ env mem k = bindO (aStep ty Γ ⟨lk env, lk mem⟩ d (.convert t1 u x)) fun a m => Chk (freshM (lk mem) d m) (k ((d, a) :: env) (m ++ mem)) := aOne_dst rfl
theorem aOne_make {t1 : TypeId} {x y : Operand} : aOne ty Γ ⟨some d, .makeSlice t1 x y, tt, pos, after, g⟩ env mem k = bindO (aStep ty Γ ⟨lk env, lk mem⟩ d (.makeSlice t1 x y)) fun a m => Chk (freshM (lk mem) d m) (k ((d, a) :: env) (m ++ mem)) := aOne_dst rfl
theorem aOne_slice {t1 : TypeId} {x : Operand} {l h m : Option Operand} : aOne ty Γ ⟨some d, .slice t1 x l h m, tt, pos, after, g⟩ env mem k = bindO (aStep ty Γ ⟨lk env, lk mem⟩ d (.slice t1 x l h m)) fun a m => Chk (freshM (lk mem) d m) (k ((d, a) :: env) (m ++ mem)) := aOne_dst rfl
theorem aOne_fieldAddr {t1 : TypeId} {x : Operand} {f : Nat} : aOne ty Γ ⟨some d, .fieldAddr t1 x f, tt, pos, after, g⟩ env mem k = bindO (aStep ty Γ ⟨lk env, lk mem⟩ d (.fieldAddr t1 x f)) fun a m => Chk (freshM (lk mem) d m) (k ((d, a) :: env) (m ++ mem)) := aOne_dst rfl
theorem aOne_field {t1 : TypeId} {x : Operand} {f : Nat} : aOne ty Γ ⟨some d, .field t1 x f, tt, pos, after, g⟩ env mem k = bindO (aStep ty Γ ⟨lk env, lk mem⟩ d (.field t1 x f)) fun a m => Chk (freshM (lk mem) d m) (k ((d, a) :: env) (m ++ mem)) := aOne_dst rfl
theorem aOne_indexAddr {t1 : TypeId} {x i : Operand} : aOne ty Γ ⟨some d, .indexAddr t1 x i, tt, pos, after, g⟩ env mem k = bindO (aStep ty Γ ⟨lk env, lk mem⟩ d (.indexAddr t1 x i)) fun a m => Chk (freshM (lk mem) d m) (k ((d, a) :: env) (m ++ mem)) := aOne_dst rfl
theorem aOne_index {t1 : TypeId} {x i : Operand} : aOne ty Γ ⟨some d, .index t1 x i, tt, pos, after, g⟩ env mem k = bindO (aStep ty Γ ⟨lk env, lk mem⟩ d (.index t1 x i)) fun a m => Chk (freshM (lk mem) d m) (k ((d, a) :: env) (m ++ mem)) := aOne_dst rfl
theorem aOne_extract {x : Operand} {f : Nat} : aOne ty Γ ⟨some d, .extract x f, tt, pos, after, g⟩ env mem k = bindO (aStep ty Γ ⟨lk env, lk mem⟩ d (.extract x f)) fun a m => Chk (freshM (lk mem) d m) (k ((d, a) :: env) (m ++ mem)) := aOne_dst rfl
theorem aOne_func {v : Operand} {a : Array Operand} {ts : Array TypeId} : aOne ty Γ ⟨some d, .call ⟨.value v, a, ts⟩, tt, pos, after, g⟩ env mem k = bindO (aStep ty Γ ⟨lk env, lk mem⟩ d (.call ⟨.value v, a, ts⟩)) fun a m => Chk (freshM (lk mem) d m) (k ((d, a) :: env) (m ++ mem)) := aOne_dst rfl
theorem aOne_len {a : Array Operand} {ts : Array TypeId} : aOne ty Γ ⟨some d, .call ⟨.builtin .len, a, ts⟩, tt, pos, after, g⟩ env mem k = bindO (aStep ty Γ ⟨lk env, lk mem⟩ d (.call ⟨.builtin .len, a, ts⟩)) fun a m => Chk (freshM (lk mem) d m) (k ((d, a) :: env) (m ++ mem)) := aOne_dst rfl
theorem aOne_max {a : Array Operand} {ts : Array TypeId} : aOne ty Γ ⟨some d, .call ⟨.builtin .max, a, ts⟩, tt, pos, after, g⟩ env mem k = bindO (aStep ty Γ ⟨lk env, lk mem⟩ d (.call ⟨.builtin .max, a, ts⟩)) fun a m => Chk (freshM (lk mem) d m) (k ((d, a) :: env) (m ++ mem)) := aOne_dst rfl
theorem aOne_min {a : Array Operand} {ts : Array TypeId} : aOne ty Γ ⟨some d, .call ⟨.builtin .min, a, ts⟩, tt, pos, after, g⟩ env mem k = bindO (aStep ty Γ ⟨lk env, lk mem⟩ d (.call ⟨.builtin .min, a, ts⟩)) fun a m => Chk (freshM (lk mem) d m) (k ((d, a) :: env) (m ++ mem)) := aOne_dst rfl
end
end Go.AM
namespace Go.AM
theorem ofInt_toNat {k : IntKind} {a : Int} (h0 : 0 ≤ a) (h1 : a < 2 ^ k.bits) : (BitVec.ofInt k.bits a).toNat = a.toNat := by
  rw [BitVec.toNat_ofInt]
  congr 1
  rw [Int.emod_eq_of_lt h0]
  exact_mod_cast h1
theorem wrap_u64 {n : Nat} (h : n < 18446744073709551616) : IntKind.u64.wrap (n : Int) = n := by
  simp only [IntKind.wrap]
  simp [IntKind.bits, IntKind.signed]
  omega
theorem wrap_u32 {n : Nat} (h : n < 4294967296) : IntKind.u32.wrap (n : Int) = n := by
  simp only [IntKind.wrap]
  simp [IntKind.bits, IntKind.signed]
  omega
theorem and_u64 {a b : Int} (ha : 0 ≤ a ∧ a < 18446744073709551616) (hb : 0 ≤ b ∧ b < 18446744073709551616) : bits .and .u64 a b = ((a.toNat &&& b.toNat : Nat) : Int) := by
  simp only [bits]
  rw [BitVec.toNat_and, ofInt_toNat ha.1 (by simpa [IntKind.bits] using ha.2), ofInt_toNat hb.1 (by simpa [IntKind.bits] using hb.2)]
  exact wrap_u64 (Nat.lt_of_le_of_lt Nat.and_le_left (by omega))
theorem or_u64 {a b : Int} (ha : 0 ≤ a ∧ a < 18446744073709551616) (hb : 0 ≤ b ∧ b < 18446744073709551616) : bits .or .u64 a b = ((a.toNat ||| b.toNat : Nat) : Int) := by
  simp only [bits]
  rw [BitVec.toNat_or, ofInt_toNat ha.1 (by simpa [IntKind.bits] using ha.2), ofInt_toNat hb.1 (by simpa [IntKind.bits] using hb.2)]
  exact wrap_u64 (Nat.or_lt_two_pow (n := 64) (by omega) (by omega))
theorem and_u32 {a b : Int} (ha : 0 ≤ a ∧ a < 4294967296) (hb : 0 ≤ b ∧ b < 4294967296) : bits .and .u32 a b = ((a.toNat &&& b.toNat : Nat) : Int) := by
  simp only [bits]
  rw [BitVec.toNat_and, ofInt_toNat ha.1 (by simpa [IntKind.bits] using ha.2), ofInt_toNat hb.1 (by simpa [IntKind.bits] using hb.2)]
  exact wrap_u32 (Nat.lt_of_le_of_lt Nat.and_le_left (by omega))
theorem and_mask {a : Int} (n : Nat) (ha : 0 ≤ a ∧ a < 18446744073709551616) (hn : n ≤ 64) : bits .and .u64 a (2 ^ n - 1 : Int) = a % 2 ^ n := by
  have h1 : (2:Int) ^ n ≤ 2 ^ 64 := by exact_mod_cast Nat.pow_le_pow_right (by omega) hn
  have h2 : (1:Int) ≤ 2 ^ n := by exact_mod_cast Nat.one_le_two_pow
  have h64 : (2:Int) ^ 64 = 18446744073709551616 := by decide
  rw [and_u64 ha ⟨by omega, by omega⟩]
  have e : ((2:Int) ^ n - 1).toNat = 2 ^ n - 1 := by
    have : ((2:Int) ^ n - 1) = ((2 ^ n - 1 : Nat) : Int) := by
      rw [Int.natCast_sub Nat.one_le_two_pow]; simp
    rw [this]; rfl
  rw [e, Nat.and_two_pow_sub_one_eq_mod]
  have h3 : ((a.toNat : Nat) : Int) = a := by omega
  rw [Int.natCast_emod, h3]
  simp
end Go.AM
namespace Go.AM
section
variable {ty : Ty} {Γ : Gam} {env : List (Nat × AV)} {mem mem0 : List (Nat × Ct × Bool)} {all r : List Oper} {K : List (Nat × AV) → List (Nat × Ct × Bool) → Prop} {rd wr : NNs} {i : Nat} {o : Oper}
theorem awpD_nil : awpD ty Γ all mem0 K i rd wr [] env mem = K env mem := rfl
theorem awpD_cons : awpD ty Γ all mem0 K i rd wr (o :: r) env mem = bindG (aGuard all ⟨lk env, lk mem⟩ o.guard)
      (dOne ty Γ mem0 i o rd wr env mem fun rd wr env mem => awpD ty Γ all mem0 K (i + 1) rd wr r env mem)
      (dOne ty Γ mem0 i o rd wr (gset all o.guard true ++ env) mem fun rd wr env mem => awpD ty Γ all mem0 K (i + 1) rd wr r env mem)
      (awpD ty Γ all mem0 K (i + 1) rd wr r (skipE o.dst (gset all o.guard false ++ env)) mem)
      (awpD ty Γ all mem0 K (i + 1) rd wr r (skipE o.dst env) mem) := rfl
def keysB (mem0 : List (Nat × Ct × Bool)) (env : List (Nat × AV)) (wr : NNs) (o : Oper) : Prop := (keysAt mem0 (lk env) (tmpsOf o.op) && clash wr o (rdKeys (lk env) (tmpsOf o.op))) = true
def keysC (mem0 : List (Nat × Ct × Bool)) (env : List (Nat × AV)) (op : Op) : Prop := keysAt mem0 (lk env) (tmpsOf op) = true
def rdN (env : List (Nat × AV)) (i : Nat) (op : Op) (rd : NNs) : NNs := (rdKeys (lk env) (tmpsOf op)).map (fun x => (i, x)) ++ rd
theorem dOne_dst {d : Nat} {op : Op} {t : TypeId} {pos : String} {after : Array Edge} {g : Option (Nat × Bool)} {k : DK} :
    dOne ty Γ mem0 i ⟨some d, op, t, pos, after, g⟩ rd wr env mem k = Chk (keysB mem0 env wr ⟨some d, op, t, pos, after, g⟩) (bindO (aStep ty Γ ⟨lk env, lk mem⟩ d op) fun a m => Chk (freshM (lk mem) d m ∧ noFz m) (k (rdN env i op rd) wr ((d, a) :: env) (m ++ mem))) := rfl
theorem dOne_store {t t' : TypeId} {x y : Operand} {pos : String} {after : Array Edge} {g : Option (Nat × Bool)} {k : DK} :
    dOne ty Γ mem0 i ⟨none, .store t' x y, t, pos, after, g⟩ rd wr env mem k = Chk (keysB mem0 env wr ⟨none, .store t' x y, t, pos, after, g⟩) (bindS (aStore ty ⟨lk env, lk mem⟩ t' x y) fun key c => Chk (((lk mem0 key).isSome && clashK rd ⟨none, .store t' x y, t, pos, after, g⟩ key) = true) (k (rdN env i (.store t' x y) rd) ((i, key) :: wr) env ((key, c, false) :: mem))) := rfl
theorem awpD_congr {env' : List (Nat × AV)} {mem' : List (Nat × Ct × Bool)} (h : env = env') (h' : mem = mem') : awpD ty Γ all mem0 K i rd wr r env mem = awpD ty Γ all mem0 K i rd wr r env' mem' := by rw [h, h']
theorem dOne_congr {env' : List (Nat × AV)} {mem' : List (Nat × Ct × Bool)} {k : DK} (h : env = env') (h' : mem = mem') : dOne ty Γ mem0 i o rd wr env mem k = dOne ty Γ mem0 i o rd wr env' mem' k := by rw [h, h']
theorem keysB_i {wr : NNs} (h : (keysAt mem0 (lk env) (tmpsOf o.op) && clash wr o (rdKeys (lk env) (tmpsOf o.op))) = true) : keysB mem0 env wr o := h
theorem noFz_nil : noFz [] = True := rfl
theorem noFz_cons {k : Nat} {c : Ct} {fr : Bool} {r : List (Nat × Ct × Bool)} : noFz ((k, c, fr) :: r) = (fr = false ∧ noFz r) := rfl
theorem keysB_congr {env' : List (Nat × AV)} (h : env = env') : keysB mem0 env wr o = keysB mem0 env' wr o := by rw [h]
theorem awp_region_a {Q : Post} {id : Nat} {l : List Oper} (h : ∀ all, all = l → ∀ K : List (Nat × AV) → List (Nat × Ct × Bool) → Prop, (∀ env mem, Q .normal env mem → K env mem) → awpOps ty Γ all K l env mem) : awp ty Γ (.region id l.toArray false) Q env mem := h _ rfl _ fun _ _ h => h
theorem awp_draw_a {Q : Post} {id : Nat} {l : List Oper} (hd : drawOk l = true) (h : ∀ all, all = l → ∀ K : List (Nat × AV) → List (Nat × Ct × Bool) → Prop, (∀ env mem, Q .normal env mem → K env mem) → awpD ty Γ all mem K 0 [] [] l env mem) : awp ty Γ (.region id l.toArray true) Q env mem := ⟨hd, h _ rfl _ fun _ _ h => h⟩
theorem ops_k (h : ∀ X : List (Nat × AV) → List (Nat × Ct × Bool) → Prop, (∀ env mem, awpOps ty Γ all K r env mem → X env mem) → bindG (aGuard all ⟨lk env, lk mem⟩ o.guard) (aOne ty Γ o env mem X) (aOne ty Γ o (gset all o.guard true ++ env) mem X) (X (skipE o.dst (gset all o.guard false ++ env)) mem) (X (skipE o.dst env) mem)) : awpOps ty Γ all K (o :: r) env mem := h _ fun _ _ h => h
theorem opsD_k (h : ∀ X : DK, (∀ rd wr env mem, awpD ty Γ all mem0 K (i + 1) rd wr r env mem → X rd wr env mem) → bindG (aGuard all ⟨lk env, lk mem⟩ o.guard)
      (dOne ty Γ mem0 i o rd wr env mem X)
      (dOne ty Γ mem0 i o rd wr (gset all o.guard true ++ env) mem X)
      (X rd wr (skipE o.dst (gset all o.guard false ++ env)) mem)
      (X rd wr (skipE o.dst env) mem)) : awpD ty Γ all mem0 K i rd wr (o :: r) env mem := h _ fun _ _ _ _ h => h
theorem ops_nil_i (h : K env mem) : awpOps ty Γ all K [] env mem := h
theorem opsD_nil_i (h : K env mem) : awpD ty Γ all mem0 K i rd wr [] env mem := h
theorem retP_ret {vs : List ResultVar} {rs : Res} : retP ty vs rs .ret env mem = resOk ty (lk env) (lk mem) vs rs := rfl
theorem aGuard_none {s : St} : aGuard all s none = .no := rfl
theorem aGuard_some {s : St} {j : Nat} {b : Bool} : aGuard all s (some (j, b)) = match (all[j]?).bind (·.dst) with
    | some sl => match s.e sl with
      | some (.v (.bool c)) => .tt (c == b)
      | some (.v (.tuple _)) => .off
      | _ => .bad
    | none => .bad := rfl
theorem gset_none {t : Bool} : gset all none t = [] := rfl
theorem gset_some {j : Nat} {b t : Bool} : gset all (some (j, b)) t = [(((all[j]?).bind (·.dst)).getD 0, .v (.bool (if t then b else !b)))] := rfl
theorem undef_eq : undef = Value.tuple #[] := rfl
theorem beqT (b : Bool) : (b == true) = b := by cases b <;> rfl
theorem beqF (b : Bool) : (b == false) = !b := by cases b <;> rfl
/-- A drawn region without stores. -/
def nOne (ty : Ty) (Γ : Gam) (mem0 : List (Nat × Ct × Bool)) (o : Oper) (env : List (Nat × AV)) (mem : List (Nat × Ct × Bool)) (k : List (Nat × AV) → List (Nat × Ct × Bool) → Prop) : Prop :=
  match o.dst, o.op with
  | some d, op => Chk (keysAt mem0 (lk env) (tmpsOf op) = true) (bindO (aStep ty Γ ⟨lk env, lk mem⟩ d op) fun a m => Chk (freshM (lk mem) d m ∧ noFz m) (k ((d, a) :: env) (m ++ mem)))
  | none, _ => False
def awpN (ty : Ty) (Γ : Gam) (all : List Oper) (mem0 : List (Nat × Ct × Bool)) (K : List (Nat × AV) → List (Nat × Ct × Bool) → Prop) : List Oper → List (Nat × AV) → List (Nat × Ct × Bool) → Prop
  | [], env, mem => K env mem
  | o :: r, env, mem => bindG (aGuard all ⟨lk env, lk mem⟩ o.guard)
      (nOne ty Γ mem0 o env mem fun env mem => awpN ty Γ all mem0 K r env mem)
      (nOne ty Γ mem0 o (gset all o.guard true ++ env) mem fun env mem => awpN ty Γ all mem0 K r env mem)
      (awpN ty Γ all mem0 K r (skipE o.dst (gset all o.guard false ++ env)) mem)
      (awpN ty Γ all mem0 K r (skipE o.dst env) mem)
theorem nOne_ok {k : List (Nat × AV) → List (Nat × Ct × Bool) → Prop} {k' : DK} (hk : ∀ rd env mem, k env mem → k' rd [] env mem) (h : nOne ty Γ mem0 o env mem k) : dOne ty Γ mem0 i o rd [] env mem k' := by
  unfold nOne at h
  unfold dOne
  split at h
  · rename_i d op hd
    refine ⟨by rw [h.1]; rfl, ?_⟩
    rw [hd]
    refine bindO_mono h.2 (fun a m h2 => ?_)
    exact ⟨h2.1, hk _ _ _ h2.2⟩
  · exact h.elim
theorem awpN_ok : ∀ {r : List Oper} {i : Nat} {rd : NNs} {env : List (Nat × AV)} {mem : List (Nat × Ct × Bool)}, awpN ty Γ all mem0 K r env mem → awpD ty Γ all mem0 K i rd [] r env mem
  | [], i, rd, env, mem, h => h
  | o :: r, i, rd, env, mem, h => by
    rw [awpD_cons]
    unfold awpN at h
    refine bindG_mono h (nOne_ok (fun rd e m => awpN_ok (r := r))) (nOne_ok (fun rd e m => awpN_ok (r := r))) (awpN_ok (r := r)) (awpN_ok (r := r))
theorem awp_draw_n {Q : Post} {id : Nat} {l : List Oper} (hd : drawOk l = true) (h : ∀ all, all = l → ∀ K : List (Nat × AV) → List (Nat × Ct × Bool) → Prop, (∀ env mem, Q .normal env mem → K env mem) → awpN ty Γ all mem K l env mem) : awp ty Γ (.region id l.toArray true) Q env mem := ⟨hd, awpN_ok (h _ rfl _ fun _ _ h => h)⟩
theorem opsN_k (h : ∀ X : List (Nat × AV) → List (Nat × Ct × Bool) → Prop, (∀ env mem, awpN ty Γ all mem0 K r env mem → X env mem) → bindG (aGuard all ⟨lk env, lk mem⟩ o.guard) (nOne ty Γ mem0 o env mem X) (nOne ty Γ mem0 o (gset all o.guard true ++ env) mem X) (X (skipE o.dst (gset all o.guard false ++ env)) mem) (X (skipE o.dst env) mem)) : awpN ty Γ all mem0 K (o :: r) env mem := h _ fun _ _ h => h
theorem opsN_nil_i (h : K env mem) : awpN ty Γ all mem0 K [] env mem := h
theorem nOne_dst {d : Nat} {op : Op} {t : TypeId} {pos : String} {after : Array Edge} {g : Option (Nat × Bool)} {k : List (Nat × AV) → List (Nat × Ct × Bool) → Prop} :
    nOne ty Γ mem0 ⟨some d, op, t, pos, after, g⟩ env mem k = Chk (keysC mem0 env op) (bindO (aStep ty Γ ⟨lk env, lk mem⟩ d op) fun a m => Chk (freshM (lk mem) d m ∧ noFz m) (k ((d, a) :: env) (m ++ mem))) := rfl
theorem nOne_congr {env' : List (Nat × AV)} {mem' : List (Nat × Ct × Bool)} {k : List (Nat × AV) → List (Nat × Ct × Bool) → Prop} (h : env = env') (h' : mem = mem') : nOne ty Γ mem0 o env mem k = nOne ty Γ mem0 o env' mem' k := by rw [h, h']
theorem keysC_i {op : Op} (h : keysAt mem0 (lk env) (tmpsOf op) = true) : keysC mem0 env op := h
/-- The slots that are still wanted. -/
def keepE (live : List Nat) : List (Nat × AV) → List (Nat × AV)
  | [] => []
  | (k, a) :: r => if live.contains k then (k, a) :: keepE (live.erase k) r else keepE live r
end
end Go.AM
namespace Go.AM
variable {ty : Ty} {Γ : Gam} {Q : Post} {env : List (Nat × AV)} {mem : List (Nat × Ct × Bool)}
def keepL (live : List Nat) (env : List (Nat × AV)) : List (Nat × AV) := live.filterMap fun t => (lk env t).map fun a => (t, a)
theorem lk_keepL {env : List (Nat × AV)} {t : Nat} {a : AV} : ∀ {live : List Nat}, lk (keepL live env) t = some a → lk env t = some a
  | [], h => by cases h
  | x :: r, h => by
    cases hx : lk env x with
    | none =>
      have e : keepL (x :: r) env = keepL r env := by simp [keepL, hx]
      rw [e] at h; exact lk_keepL h
    | some b =>
      have e : keepL (x :: r) env = (x, b) :: keepL r env := by simp [keepL, hx]
      rw [e] at h
      simp only [lk] at h
      split at h
      · rename_i ht; subst ht; cases h; exact hx
      · exact lk_keepL h
/-- The first of each key. -/
def dedM : List (Nat × Ct × Bool) → List Nat → List (Nat × Ct × Bool)
  | [], _ => []
  | (k, c) :: r, seen => if seen.contains k then dedM r seen else (k, c) :: dedM r (k :: seen)
theorem lk_dedM : ∀ {mem : List (Nat × Ct × Bool)} {seen : List Nat} {t : Nat}, seen.contains t = false → lk (dedM mem seen) t = lk mem t
  | [], seen, t, h => rfl
  | (k, c) :: r, seen, t, h => by
    unfold dedM
    split
    · rename_i hk
      have hne : t ≠ k := fun e => by subst e; rw [hk] at h; cases h
      simp only [lk, if_neg hne]
      exact lk_dedM h
    · rename_i hk
      by_cases ht : t = k
      · subst ht; simp [lk]
      · simp only [lk, if_neg ht]
        exact lk_dedM (by simp only [List.contains_cons, h, Bool.or_false]; simpa using ht)
theorem ent_keep (live : List Nat) (env : List (Nat × AV)) (mem : List (Nat × Ct × Bool)) : Ent env mem (keepL live env) (dedM mem []) := by
  rintro V w0 N a w ⟨β, h⟩
  have hm : lk (dedM mem []) = lk mem := by funext t; exact lk_dedM rfl
  rw [hm]
  exact ⟨β, h.fresh, h.below, h.size, h.defers, h.mem, h.inj, fun t av ht => h.slots t av (lk_keepL ht)⟩
/-- Behind a: what is wanted yet. -/
theorem awp_seq_l (live : List Nat) {a b : Code} (h : ∀ K : List (Nat × AV) → List (Nat × Ct × Bool) → Prop, (∀ env mem, awp ty Γ b Q (keepL live env) (dedM mem []) → K env mem) → awp ty Γ a (thenP K Q) env mem) : awp ty Γ (.seq a b) Q env mem := by
  refine awp_mono (c := a) (Q' := thenP (awp ty Γ b Q) Q) (fun x e m hx => ?_) (h (fun e m => awp ty Γ b Q (keepL live e) (dedM m [])) fun e m h => h)
  cases x with
  | normal =>
    obtain ⟨e0, m0, h0, h1⟩ := hx
    exact ⟨keepL live e0, dedM m0 [], h0.trans (ent_keep live e0 m0), h1⟩
  | exit j => exact hx
  | ret => exact hx
theorem awp_loop_s {c : Code} {σ : Type} (I : σ → Prop) (E : σ → List (Nat × AV)) (M : σ → List (Nat × Ct × Bool)) (μ : σ → Nat) (s0 : σ) (hI : I s0) (h0 : Ent env mem (E s0) (M s0))
    (h : ∀ s, I s → awp ty Γ c (fun e env' mem' => match e with | .normal => ∃ s', Ent env' mem' (E s') (M s') ∧ I s' ∧ μ s' < μ s | e => Q e env' mem') (E s) (M s)) : awp ty Γ (.loop c) Q env mem := by
  refine ⟨{s // I s}, fun i => E i.1, fun i => M i.1, fun i => μ i.1, ⟨s0, hI⟩, h0, fun i => awp_mono (fun x e m hx => ?_) (h i.1 i.2)⟩
  cases x with
  | normal =>
    obtain ⟨s', h1, h2, h3⟩ := hx
    exact ⟨⟨s', h2⟩, h1, h3⟩
  | exit j => exact hx
  | ret => exact hx
/-- The same, by names: the round's end. -/
def lpP {σ : Type} (I : σ → Prop) (E : σ → List (Nat × AV)) (M : σ → List (Nat × Ct × Bool)) (μ : σ → Nat) (s : σ) (Q : Post) : Post := fun e env' mem' => match e with | .normal => ∃ s', Ent env' mem' (E s') (M s') ∧ I s' ∧ μ s' < μ s | e => Q e env' mem'
theorem lpP_normal_i {σ : Type} {I : σ → Prop} {E : σ → List (Nat × AV)} {M : σ → List (Nat × Ct × Bool)} {μ : σ → Nat} {s : σ} (h : ∃ s', Ent env mem (E s') (M s') ∧ I s' ∧ μ s' < μ s) : lpP I E M μ s Q .normal env mem := h
theorem lpP_ret {σ : Type} {I : σ → Prop} {E : σ → List (Nat × AV)} {M : σ → List (Nat × Ct × Bool)} {μ : σ → Nat} {s : σ} : lpP I E M μ s Q .ret env mem = Q .ret env mem := rfl
theorem lpP_exit {σ : Type} {I : σ → Prop} {E : σ → List (Nat × AV)} {M : σ → List (Nat × Ct × Bool)} {μ : σ → Nat} {s : σ} {j : Nat} : lpP I E M μ s Q (.exit j) env mem = Q (.exit j) env mem := rfl
theorem awp_lp {c : Code} {σ : Type} (I : σ → Prop) (E : σ → List (Nat × AV)) (M : σ → List (Nat × Ct × Bool)) (μ : σ → Nat) (s0 : σ) (hI : I s0) (h0 : Ent env mem (E s0) (M s0))
    (h : ∀ s, I s → awp ty Γ c (lpP I E M μ s Q) (E s) (M s)) : awp ty Γ (.loop c) Q env mem := awp_loop_s I E M μ s0 hI h0 fun s hs => awp_mono (fun x e m hx => by cases x <;> exact hx) (h s hs)
theorem retP_normal {vs : List ResultVar} {rs : Res} : retP ty vs rs .normal env mem = resOk ty (lk env) (lk mem) vs rs := rfl
def code (f : Func) : Code := f.body.getD .skip
theorem minLit (n : Nat) (h : n ≤ 64 := by decide) : min n 64 = n := Nat.min_eq_left h
theorem aOne_copy {d : Nat} {x y : Operand} {t u tt : TypeId} {pos : String} {after : Array Edge} {g : Option (Nat × Bool)} {k : List (Nat × AV) → List (Nat × Ct × Bool) → Prop} : aOne ty Γ ⟨some d, .call ⟨.builtin .copy, ⟨[x, y]⟩, ⟨[t, u]⟩⟩, tt, pos, after, g⟩ env mem k = bindP (spCopy ty env mem d x y t) fun s => k ((d, s.av) :: s.env) ((s.key, s.ct, false) :: mem) := aOne_sp rfl
theorem bindP_some (s : Sp) (k : Sp → Prop) : bindP (some s) k = Chk s.pre (k s) := rfl
def nrmD : DV → DV
  | .v (.slice none 0 0) => .sl .u64 []
  | d => d
/-- nil is the empty one. -/
def norm (s : CSpec) : CSpec := fun ds => s (ds.map nrmD)
theorem nrmD_rep {w : World} {d : DV} {v : Value} (h : RepD w d v) : RepD w (nrmD d) v := by
  unfold nrmD
  split
  · have hv : v = .slice none 0 0 := h
    exact ⟨none, 0, hv, Nat.le_refl _, Nat.zero_le _, fun hn => absurd rfl hn⟩
  · exact h
theorem nrmDs_rep {w : World} : ∀ {ds : List DV} {vs : List Value}, RepDs w ds vs → RepDs w (ds.map nrmD) vs
  | [], [], _ => trivial
  | [], _ :: _, h => h.elim
  | _ :: _, [], h => h.elim
  | _ :: _, _ :: _, h => ⟨nrmD_rep h.1, nrmDs_rep h.2⟩
theorem sound_norm {P : Program} {f : Nat} {fk : Fk} {spec : CSpec} (h : Sound P f fk spec) : Sound P f fk (norm spec) := by
  cases fk with
  | body =>
    obtain ⟨fn, h1, h2, h3, h4⟩ := h
    exact ⟨fn, h1, h2, h3, fun ds p r h5 h6 w vs h7 => h4 _ p r h5 h6 w vs (nrmDs_rep h7)⟩
  | ext => exact fun ds p r h5 h6 w vs h7 => h _ p r h5 h6 w vs (nrmDs_rep h7)
theorem gamOk_cons {P : Program} {f : Nat} {fk : Fk} {spec : CSpec} (h : Sound P f fk spec) (hΓ : GamOk P Γ) : GamOk P ((f, fk, spec) :: Γ) := by
  intro f' fk' spec' h'
  simp only [lk] at h'
  split at h'
  · rename_i he; subst he; cases h'; exact h
  · exact hΓ _ _ _ h'
end Go.AM
namespace Go.AM
variable {ty : Ty} {Γ : Gam} {Q : Post} {env : List (Nat × AV)} {mem : List (Nat × Ct × Bool)}
theorem thenP_ret_i {f : List (Nat × AV) → List (Nat × Ct × Bool) → Prop} (h : Q .ret env mem) : thenP f Q .ret env mem := h
theorem thenP_exit_i {f : List (Nat × AV) → List (Nat × Ct × Bool) → Prop} {i : Nat} (h : Q (.exit i) env mem) : thenP f Q (.exit i) env mem := h
theorem blockP_normal_i {id : Nat} (h : Q .normal env mem) : blockP id Q .normal env mem := h
theorem blockP_ret_i {id : Nat} (h : Q .ret env mem) : blockP id Q .ret env mem := h
theorem blockP_exit_i {id j : Nat} (h : if j = id then Q .normal env mem else Q (.exit j) env mem) : blockP id Q (.exit j) env mem := h
theorem awp_cond_k {x : Operand} {a b : Code} (h : aCond (opd ⟨lk env, lk mem⟩ x) (awp ty Γ a Q env mem) (awp ty Γ b Q env mem)) : awp ty Γ (.cond x a b) Q env mem := h
theorem retP_ret_i {vs : List ResultVar} {rs : Res} (h : resOk ty (lk env) (lk mem) vs rs) : retP ty vs rs .ret env mem := h
theorem retP_normal_i {vs : List ResultVar} {rs : Res} (h : resOk ty (lk env) (lk mem) vs rs) : retP ty vs rs .normal env mem := h
theorem lpP_ret_i {σ : Type} {I : σ → Prop} {E : σ → List (Nat × AV)} {M : σ → List (Nat × Ct × Bool)} {μ : σ → Nat} {s : σ} (h : Q .ret env mem) : lpP I E M μ s Q .ret env mem := h
theorem lpP_exit_i {σ : Type} {I : σ → Prop} {E : σ → List (Nat × AV)} {M : σ → List (Nat × Ct × Bool)} {μ : σ → Nat} {s : σ} {j : Nat} (h : Q (.exit j) env mem) : lpP I E M μ s Q (.exit j) env mem := h
theorem unrP_succ_i {c : Code} {n : Nat} (h : awp ty Γ c (unrP (ty := ty) (Γ := Γ) c Q n) env mem) : unrP (ty := ty) (Γ := Γ) c Q (Nat.succ n) .normal env mem := h
theorem unrP_exit_i {c : Code} {n j : Nat} (h : Q (.exit j) env mem) : unrP (ty := ty) (Γ := Γ) c Q n (.exit j) env mem := by cases n <;> exact h
theorem unrP_ret_i {c : Code} {n : Nat} (h : Q .ret env mem) : unrP (ty := ty) (Γ := Γ) c Q n .ret env mem := by cases n <;> exact h
end Go.AM
namespace Go.AM
def S1 := And.intro @nOne_dst <| And.intro @noFz_nil <| And.intro @noFz_cons <| And.intro @pow2.eq_1 <| And.intro @pow2.eq_2 <| And.intro @pow2.eq_3 <| And.intro @pow2.eq_4 <| And.intro @pow2.eq_5 <| And.intro @pow2.eq_6 <| And.intro @pow2.eq_7 <| And.intro @pow2.eq_8 <| And.intro @eq_self.{1} <| And.intro @entry.eq_1 <| And.intro @entry.eq_2 <| And.intro @entry.eq_3 <| And.intro @Chk_true <| And.intro @Brk_true <| And.intro @Brk_false <| And.intro @bindO_some <| And.intro @bindS_some <| And.intro @bindG_no <| And.intro @bindG_off <| And.intro @bindG_tt <| And.intro @awpOps_nil <| And.intro @aOne_move <| And.intro @aOne_assign <| And.intro @aOne_pick <| And.intro @aOne_alloc <| And.intro @aOne_box <| And.intro @aOne_build <| And.intro @aOne_buildSlice <| And.intro @aOne_load <| And.intro @aOne_bin <| And.intro @aOne_un <| And.intro @aOne_conv <| And.intro @aOne_make <| And.intro @aOne_slice <| And.intro @aOne_fieldAddr <| And.intro @aOne_field <| @aOne_indexAddr
def S2 := And.intro @aOne_index <| And.intro @aOne_extract <| And.intro @aOne_func <| And.intro @aOne_len <| And.intro @aOne_max <| And.intro @aOne_min <| And.intro @aOne_store <| And.intro @Option.getD_some.{0} <| And.intro @Option.getD_none.{0} <| And.intro @aGuard_none <| And.intro @aGuard_some <| And.intro @gset_none <| And.intro @gset_some <| And.intro @skipE.eq_1 <| And.intro @skipE.eq_2 <| And.intro @aStep.eq_1 <| And.intro @aStep.eq_2 <| And.intro @aStep.eq_3 <| And.intro @aStep.eq_4 <| And.intro @aStep.eq_5 <| And.intro @aStep.eq_6 <| And.intro @aStep.eq_7 <| And.intro @aStep.eq_8 <| And.intro @aStep.eq_9 <| And.intro @aStep.eq_10 <| And.intro @aStep.eq_11 <| And.intro @aStep.eq_12 <| And.intro @aStep.eq_13 <| And.intro @aStep.eq_14 <| And.intro @aStep.eq_15 <| And.intro @aStep.eq_16 <| And.intro @aStep.eq_17 <| And.intro @aStep.eq_18 <| And.intro @aStep.eq_19 <| And.intro @aStep.eq_20 <| And.intro @aStep.eq_21 <| And.intro @aStep.eq_22 <| And.intro @aStep.eq_23 <| And.intro @aStore.eq_1 <| @opd.eq_1
def S3 := And.intro @opd.eq_2 <| And.intro @opd.eq_3 <| And.intro @lk.eq_1 <| And.intro @lk.eq_2 <| And.intro @valOf.eq_1 <| And.intro @valOf.eq_2 <| And.intro @intOf.eq_1 <| And.intro @intOf.eq_2 <| And.intro @vcells.eq_1 <| And.intro @vcells.eq_2 <| And.intro @ldAt.eq_1 <| And.intro @ldAt.eq_2 <| And.intro @stAt.eq_1 <| And.intro @stAt.eq_2 <| And.intro @stAt.eq_3 <| And.intro @setL.eq_1 <| And.intro @setL.eq_2 <| And.intro @fillParts.eq_1 <| And.intro @fillParts.eq_2 <| And.intro @slLen.eq_1 <| And.intro @slLen.eq_2 <| And.intro @slLen.eq_3 <| And.intro @slLen.eq_4 <| And.intro @slLen.eq_5 <| And.intro @slInts.eq_1 <| And.intro @slInts.eq_2 <| And.intro @slInts.eq_3 <| And.intro @slInts.eq_4 <| And.intro @slInts.eq_5 <| And.intro @Ct.len.eq_1 <| And.intro @Ct.len.eq_2 <| And.intro @Ct.intsOf.eq_1 <| And.intro @Ct.intsOf.eq_2 <| And.intro @Ct.cells.eq_1 <| And.intro @Ct.cells.eq_2 <| And.intro @dvs.eq_1 <| And.intro @dvs.eq_2 <| And.intro @dvOf.eq_1 <| And.intro @dvOf.eq_2 <| @dvOf.eq_3
def S4 := And.intro @dvOf.eq_4 <| And.intro @dvOf.eq_5 <| And.intro @plainV.eq_1 <| And.intro @plainV.eq_2 <| And.intro @outRV.eq_1 <| And.intro @outRV.eq_2 <| And.intro @outRV.eq_3 <| And.intro @outRV.eq_4 <| And.intro @outMem.eq_1 <| And.intro @outMem.eq_2 <| And.intro @outMem.eq_3 <| And.intro @outAVs.eq_1 <| And.intro @outAVs.eq_2 <| And.intro @outMems.eq_1 <| And.intro @outMems.eq_2 <| And.intro @RV.isView.eq_1 <| And.intro @RV.isView.eq_2 <| And.intro @RV.isFresh.eq_1 <| And.intro @RV.isFresh.eq_2 <| And.intro @RV.isFresh.eq_3 <| And.intro @freezes.eq_1 <| And.intro @freezes.eq_2 <| And.intro @keyOf.eq_1 <| And.intro @keyOf.eq_2 <| And.intro @keyOf.eq_3 <| And.intro @bin.eq_1 <| And.intro @bin.eq_2 <| And.intro @bin.eq_3 <| And.intro @bin.eq_4 <| And.intro @bin.eq_5 <| And.intro @bin.eq_6 <| And.intro @bin.eq_7 <| And.intro @bin.eq_8 <| And.intro @bin.eq_9 <| And.intro @bin.eq_10 <| And.intro @bin.eq_11 <| And.intro @bin.eq_12 <| And.intro @bin.eq_13 <| And.intro @bin.eq_14 <| @bin.eq_15
def S5 := And.intro @bin.eq_16 <| And.intro @bin.eq_17 <| And.intro @bin.eq_18 <| And.intro @bin.eq_19 <| And.intro @bin.eq_20 <| And.intro @bin.eq_21 <| And.intro @bin.eq_22 <| And.intro @bin.eq_23 <| And.intro @bin.eq_24 <| And.intro @bin.eq_25 <| And.intro @bin.eq_26 <| And.intro @bin.eq_27 <| And.intro @un.eq_1 <| And.intro @un.eq_2 <| And.intro @un.eq_3 <| And.intro @un.eq_4 <| And.intro @conv.eq_1 <| And.intro @conv.eq_2 <| And.intro @conv.eq_3 <| And.intro @convF.eq_1 <| And.intro @convF.eq_2 <| And.intro @convF.eq_3 <| And.intro @fbin.eq_1 <| And.intro @fbin.eq_2 <| And.intro @fbin.eq_3 <| And.intro @fbin.eq_4 <| And.intro @fbin.eq_5 <| And.intro @fbin.eq_6 <| And.intro @fbin.eq_7 <| And.intro @fbin.eq_8 <| And.intro @fbin.eq_9 <| And.intro @fbin.eq_10 <| And.intro @fbin.eq_11 <| And.intro @arr.eq_1 <| And.intro @sgn.eq_1 <| And.intro @sgn.eq_2 <| And.intro @sgn.eq_3 <| And.intro @sgn.eq_4 <| And.intro @sgn.eq_5 <| @pickAV.eq_1
def S6 := And.intro @pickAV.eq_2 <| And.intro @lo?.eq_1 <| And.intro @lo?.eq_2 <| And.intro @hi?.eq_1 <| And.intro @hi?.eq_2 <| And.intro @stBuild.eq_1 <| And.intro @stCells.eq_1 <| And.intro @stBuildSlice.eq_1 <| And.intro @stLoad.eq_1 <| And.intro @stBin.eq_1 <| And.intro @stBin.eq_2 <| And.intro @stBin.eq_3 <| And.intro @stBin.eq_4 <| And.intro @stBin.eq_5 <| And.intro @stUn.eq_1 <| And.intro @stUn.eq_2 <| And.intro @stConv.eq_1 <| And.intro @stMake.eq_1 <| And.intro @stSlice.eq_1 <| And.intro @stSlice.eq_2 <| And.intro @stSlice.eq_3 <| And.intro @stSlice.eq_4 <| And.intro @stSlice.eq_5 <| And.intro @stSlice.eq_6 <| And.intro @stSlice.eq_7 <| And.intro @stFieldAddr.eq_1 <| And.intro @stField.eq_1 <| And.intro @stIndexAddr.eq_1 <| And.intro @stIndex.eq_1 <| And.intro @stExtract.eq_1 <| And.intro @stExtract.eq_2 <| And.intro @stLen.eq_1 <| And.intro @stLen.eq_2 <| And.intro @stMax.eq_1 <| And.intro @stMax.eq_2 <| And.intro @stMin.eq_1 <| And.intro @stMin.eq_2 <| And.intro @bindRes.eq_1 <| And.intro @bindRes.eq_2 <| @stCall.eq_1
def S7 := And.intro @slTy.eq_1 <| And.intro @strTy.eq_1 <| And.intro @boolOk.eq_1 <| And.intro @boolOk.eq_2 <| And.intro @places.eq_1 <| And.intro @bracket.eq_1 <| And.intro @freshM.eq_1 <| And.intro @freshM.eq_2 <| And.intro @okCells.eq_1 <| And.intro @okCells.eq_2 <| And.intro @okCells.eq_3 <| And.intro @okCells.eq_4 <| And.intro @fits.eq_1 <| And.intro @fits.eq_2 <| And.intro @fits.eq_3 <| And.intro @fits.eq_4 <| And.intro @fits.eq_5 <| And.intro @leafEq.eq_1 <| And.intro @leafEq.eq_2 <| And.intro @leafEq.eq_3 <| And.intro @leafEq.eq_4 <| And.intro @leafEq.eq_5 <| And.intro @Option.map_some.{0, 0} <| And.intro @Option.map_none.{0, 0} <| And.intro @Option.bind_some.{0, 0} <| And.intro @Option.bind_none.{0, 0} <| And.intro @Option.some.injEq.{0} <| And.intro @List.any_cons.{0} <| And.intro @List.any_nil.{0} <| And.intro @Bool.or_false <| And.intro @Bool.or_true <| And.intro @Bool.false_or <| And.intro @Bool.true_or <| And.intro @Bool.and_true <| And.intro @Bool.true_and <| And.intro @Bool.and_false <| And.intro @Bool.false_and <| And.intro @List.length_cons.{0} <| And.intro @List.length_nil.{0} <| @List.length_set.{0}
def S8 := And.intro @List.append_nil.{0} <| And.intro @List.nil_append.{0} <| And.intro @List.cons_append.{0} <| And.intro @Nat.zero_add <| And.intro @Nat.add_zero <| And.intro @Nat.le_refl <| And.intro @List.drop_zero.{0} <| And.intro @List.drop_succ_cons.{0} <| And.intro @List.take_succ_cons.{0} <| And.intro @List.take_zero.{0} <| And.intro @List.set_cons_zero.{0} <| And.intro @List.set_cons_succ.{0} <| And.intro @List.getD_cons_zero.{0} <| And.intro @List.getD_cons_succ.{0} <| And.intro @List.getElem?_cons_zero.{0} <| And.intro @List.getElem?_cons_succ.{0} <| And.intro @Bool.false_eq_true <| And.intro @beq_self_eq_true.{0} <| And.intro @bne_self_eq_false.{0} <| And.intro @bne.eq_1.{0} <| And.intro @undef_eq <| And.intro @beqT <| And.intro @Bool.true_beq <| And.intro @beqF <| And.intro @Bool.false_beq <| And.intro @Int.cast_ofNat_Int <| And.intro @Bool.not_true <| And.intro @Bool.not_false <| And.intro @List.getElem_toArray.{0} <| And.intro @Int.toNat_zero <| And.intro @Int.toNat_natCast <| And.intro @Nat.sub_zero <| And.intro @false_implies <| And.intro @and_self <| And.intro @and_true <| And.intro @true_and <| And.intro @or_true <| And.intro @true_or <| And.intro @or_false <| @false_or
def S9 := And.intro @not_true_eq_false <| And.intro @not_false_eq_true <| And.intro @ne_eq.{1} <| And.intro @List.replicate.eq_1.{0} <| And.intro @List.replicate.eq_2.{0} <| And.intro @Nat.zero_mul <| And.intro @decide_true <| And.intro @decide_false <| And.intro @keepL.eq_1 <| And.intro @dedM.eq_1 <| And.intro @dedM.eq_2 <| And.intro @List.filterMap_cons.{0, 0} <| And.intro @List.filterMap_nil.{0, 0} <| And.intro @List.contains_cons.{0} <| And.intro @List.contains_nil.{0} <| And.intro @dOne_dst <| And.intro @dOne_store <| And.intro @Option.isSome_some.{0} <| And.intro @resOk.eq_1 <| And.intro @resOk.eq_2 <| And.intro @resOk.eq_3 <| And.intro @rvOk.eq_1 <| And.intro @rvOk.eq_2 <| And.intro @rvOk.eq_3 <| And.intro @rvOk.eq_4 <| And.intro @rvOk.eq_5 <| And.intro @rvOk.eq_6 <| And.intro @rvsOk.eq_1 <| And.intro @rvsOk.eq_2 <| And.intro @rvsOk.eq_3 <| And.intro @rKeys.eq_1 <| And.intro @rKeys.eq_2 <| And.intro @rKeys.eq_3 <| And.intro @rKeys.eq_4 <| And.intro @nodupN.eq_1 <| And.intro @nodupN.eq_2 <| @aCond_bool
end Go.AM
set_option maxRecDepth 20000
namespace Go.Proofs.AMT
open Go.AM Go.AM.LN
attribute [local congr] bindO_congr bindS_congr bindG_congr awpOps_congr aOne_congr awp_congr aCond_congr awpD_congr dOne_congr keysB_congr nOne_congr thenP_congr blockP_congr Chk_congr Brk_congr
theorem sF64bits_eq (b : Nat) : sF64bits [.v (.float .f64 b)] = some (True, .one (.v (.int .u64 b))) := rfl
theorem sF32bits_eq (b : Nat) : sF32bits [.v (.float .f32 b)] = some (True, .one (.v (.int .u32 b))) := rfl
theorem sF64from_eq (b : Int) : sF64from [.v (.int .u64 b)] = some (True, .one (.v (.float .f64 b.toNat))) := rfl
theorem sF32from_eq (b : Int) : sF32from [.v (.int .u32 b)] = some (True, .one (.v (.float .f32 b.toNat))) := rfl
theorem sAdd64_eq (x y c : Int) : sAdd64 [.v (.int .u64 x), .v (.int .u64 y), .v (.int .u64 c)] = some (0 ≤ x ∧ 0 ≤ y ∧ 0 ≤ c ∧ c ≤ 1, .many [.v (.int .u64 ((x + y + c) % 18446744073709551616)), .v (.int .u64 ((x + y + c) / 18446744073709551616))]) := rfl
theorem sSub64_eq (x y c : Int) : sSub64 [.v (.int .u64 x), .v (.int .u64 y), .v (.int .u64 c)] = some (0 ≤ x ∧ x < 18446744073709551616 ∧ 0 ≤ y ∧ y < 18446744073709551616 ∧ 0 ≤ c ∧ c ≤ 1, .many [.v (.int .u64 ((x - y - c) % 18446744073709551616)), .v (.int .u64 (if x < y + c then 1 else 0))]) := rfl
theorem sClone_eq (l : List Int) : norm sClone [.sl .u64 l] = some (l.length ≤ 100000000, .one (.fresh .u64 l)) := rfl
theorem sClone_nil : norm sClone [.v (.slice none 0 0)] = some (([] : List Int).length ≤ 100000000, .one (.fresh .u64 [])) := rfl
def G0 : Gam := [(9, .ext, sF32from), (11, .ext, sF64bits), (12, .ext, sF64from), (14, .ext, sF32bits), (98, .ext, sSub64), (99, .ext, sAdd64), (70, .body, norm sClone)]
theorem G0_ok : GamOk Try.prog G0 := by
  intro f fk spec h
  have h := lk_mem h
  simp only [G0, List.mem_cons, Prod.mk.injEq, List.not_mem_nil, or_false] at h
  rcases h with ⟨rfl, rfl, rfl⟩ | ⟨rfl, rfl, rfl⟩ | ⟨rfl, rfl, rfl⟩ | ⟨rfl, rfl, rfl⟩ | ⟨rfl, rfl, rfl⟩ | ⟨rfl, rfl, rfl⟩ | ⟨rfl, rfl, rfl⟩
  · exact ext_9
  · exact ext_11
  · exact ext_12
  · exact ext_14
  · exact ext_98
  · exact ext_99
  · exact sound_norm clone_sound
noncomputable def s71 : CSpec := fun ds => match ds with
  | [.sl .u64 a] => some (a.length ≤ 100000000, .one (.v (.int .i64 (sz a))))
  | _ => none
theorem s71_eq (a : List Int) : norm s71 [.sl .u64 a] = some (a.length ≤ 100000000, .one (.v (.int .i64 (sz a)))) := rfl
theorem s71_nil1  : norm s71 [.v (.slice none 0 0)] = some (([] : List Int).length ≤ 100000000, .one (.v (.int .i64 (sz ([] : List Int))))) := rfl
set_option maxHeartbeats 20000000 in
theorem w71 (a : List Int) (hp : a.length ≤ 100000000) : awp ty G0 (code Try.f71) (retP ty Try.f71.results.toList (.one (.v (.int .i64 (sz a))))) (entry 0 [.sl .u64 a]) [] := by
  unfold code
  simp only [Try.f71, Option.getD_some]
  all_goals repeat' (first
    | ((first
       | (with_reducible refine ops_k ?_; intro X hX)
       | (with_reducible refine opsN_k ?_; intro X hX)
       | (with_reducible show awp _ _ _ _ (keepL _ _) _)
       | with_reducible refine awp_cond_k ?_
       | (with_reducible refine Brk_i ?_ ?_ <;> intro hb <;> (try simp only [hb]) <;> have hq := hb <;> try simp only [decide_eq_true_eq, decide_eq_false_iff_not, gt_iff_lt, ge_iff_le, Int.not_lt, Int.not_le, beq_iff_eq, beq_eq_false_iff_ne, Bool.not_eq_true', Bool.not_eq_false', Bool.and_eq_true, Bool.or_eq_true, Bool.and_eq_false_imp, Bool.or_eq_false_iff, ne_eq, Classical.not_not] at hq)
       | with_reducible refine retP_ret_i ?_
       | with_reducible refine retP_normal_i ?_
       | (with_reducible (show bindG _ _ _ _ _); simp only [hall])) <;> try simp only [Go.AM.S1, Go.AM.S2, Go.AM.S3, Go.AM.S4, Go.AM.S5, Go.AM.S6, Go.AM.S7, Go.AM.S8, Go.AM.S9, Nat.reduceAdd, Nat.reduceMul, Nat.reduceSub, ↓reduceIte, Nat.reduceEqDiff, Nat.reduceLT, Nat.reduceLeDiff, reduceCtorEq, Int.reduceBEq, Int.reduceBNe, Nat.reduceBEq, Int.reduceEq, Int.reduceToNat, Int.reduceLE, Int.reduceLT, Nat.reduceDiv, Int.reduceAdd, Int.reduceSub, Int.reduceMul, Int.reduceNeg, Int.reduceGT, Int.reduceGE, Nat.reduceMod, ty_3, ty_26, ty_42])
    | (with_reducible refine hX _ _ ?_; clear hX X)
    | with_reducible refine ops_nil_i ?_
    | with_reducible refine opsN_nil_i ?_
    | (with_reducible refine hK _ _ ?_; clear hK K)
    | with_reducible refine thenP_normal_i ?_
    | with_reducible refine zzr4 _ _ ?_
    | with_reducible refine zzb0 _ _ ?_
    | with_reducible refine zzsr2 _ _ ?_
    | with_reducible refine zzr2 _ _ ?_
    | with_reducible refine zzr1 _ _ ?_
    | with_reducible refine zzr0 _ _ ?_
    | (with_reducible refine awp_lp (σ := Nat) (fun n => n ≤ a.length ∧ ∀ i, n ≤ i → a.getD i 0 = 0) (fun n => [(0, .rd .u64 a), (3, .v (.int .i64 n))]) (fun _ => []) (fun n => n) a.length ?_ ?_ (fun s hs => ?_))
    | (with_reducible refine awp_seq_l (a := .region 4 _ _) [2] ?_; intro Kzzr4 zzr4)
    | (with_reducible refine awp_seq_l (a := .block 0 _) [3] ?_; intro Kzzb0 zzb0)
    | (with_reducible refine awp_seq_l (a := .seq (.region 2 _ _) _) [0, 3] ?_; intro Kzzsr2 zzsr2)
    | (with_reducible refine awp_seq_l (a := .region 2 _ _) [0, 3, 15] ?_; intro Kzzr2 zzr2)
    | (with_reducible refine awp_seq_l (a := .region 1 _ _) [0, 3] ?_; intro Kzzr1 zzr1)
    | (with_reducible refine awp_seq_l (a := .region 0 _ _) [0] ?_; intro Kzzr0 zzr0)
    | (with_reducible refine awp_seq_k ?_; intro K hK)
    | (with_reducible refine awp_region_a ?_; intro all hall K hK)
    | (with_reducible refine awp_draw_n ?_ ?_; kernel_rfl; intro all hall K hK)
    | (with_reducible refine Chk_i ?_ ?_)
    | (with_reducible refine keysC_i ?_; kernel_rfl)
    | (with_reducible first | refine awp_block_i ?_ | refine awp_skip_i ?_ | refine awp_ret_i ?_ | refine awp_exit_i ?_ | refine thenP_ret_i ?_ | refine thenP_exit_i ?_ | refine lpP_ret_i ?_ | refine lpP_exit_i ?_ | refine unrP_succ_i ?_ | refine unrP_ret_i ?_ | refine unrP_exit_i ?_ | refine blockP_normal_i ?_ | refine blockP_ret_i ?_)
    | (with_reducible refine blockP_exit_i ?_; simp only [↓reduceIte, Nat.reduceEqDiff])
    | with_reducible refine lpP_normal_i ?_)
  all_goals (try simp only [inR])
  · exact ⟨Nat.le_refl _, fun i hi => by simp [List.getD, List.getElem?_eq_none hi]⟩
  · exact Ent.refl _ _
  · omega
  · omega
  · omega
  · refine ⟨s - 1, by (refine ent_ok [] rfl ?_ ?_ <;> simp only [memLe, slotsLe, AvLe, lk, ↓reduceIte, Nat.reduceEqDiff, Option.isSome_some, and_self, and_true, true_and, reduceCtorEq, List.map_nil, List.map_cons, Option.some.injEq, AV.v.injEq, Value.int.injEq, Value.bool.injEq, AV.rd.injEq, AV.ow.injEq, AV.al.injEq, AV.ref.injEq] <;> omega), ⟨by omega, fun i hi => ?_⟩, by omega⟩
    by_cases h : s ≤ i
    · exact hs.2 i h
    · have : i = s - 1 := by omega
      subst this
      have e : ((s : Int) - 1).toNat = s - 1 := by omega
      rw [e] at hq
      exact hq
  · have e : ((s : Int) - 1).toNat = s - 1 := by omega
    rw [e] at hq
    rw [sz_eq s hs.1 hs.2 (.inr hq)]
  · rw [sz_eq s hs.1 hs.2 (.inl (by omega))]
theorem sound_71 : Sound Try.prog 71 .body (norm s71) := by
  refine sound_norm (sound_body Try.func71 (show Try.f71.body = some (code Try.f71) from rfl) (by kernel_rfl) tysOk G0_ok (drawOk_ok (by kernel_rfl) tysOk G0_ok) (by kernel_rfl) fun ds p r hs hp => ?_)
  unfold s71 at hs
  split at hs
  · cases hs; exact ⟨Nat.le_of_ble_eq_true (by kernel_rfl), w71 _ hp⟩
  · cases hs
noncomputable def G71 : Gam := (71, .body, norm s71) :: G0
theorem G71_ok : GamOk Try.prog G71 := gamOk_cons sound_71 G0_ok
end Go.Proofs.AMT
namespace Go.AM.LN
def cmpI (x y : Nat) : Int := if x < y then -1 else if x = y then 0 else 1
theorem val_split {a : List Int} {i : Nat} (h : i < a.length) : val a = val (a.take i) + 2 ^ (64 * i) * ((a.getD i 0).toNat + 18446744073709551616 * val (a.drop (i + 1))) := by
  have e : a = a.take i ++ (a.getD i 0 :: a.drop (i + 1)) := by
    have : a.drop i = a.getD i 0 :: a.drop (i + 1) := by
      rw [List.drop_eq_getElem_cons h, List.getD, List.getElem?_eq_getElem h]; rfl
    rw [← this, List.take_append_drop]
  have hl : (a.take i).length = i := by rw [List.length_take]; omega
  calc val a = val (a.take i ++ (a.getD i 0 :: a.drop (i + 1))) := by rw [← e]
    _ = _ := by rw [val_app, hl, val]
theorem val_take_lt {a : List Int} (h : lim a) (i : Nat) : val (a.take i) < 2 ^ (64 * i) := by
  rw [val_take a i h]; exact Nat.mod_lt _ (Nat.two_pow_pos _)
theorem cmp_lt {a b : List Int} (la : lim a) (lb : lim b) {i : Nat} (hi : i < a.length) (hj : i < b.length) (hd : a.drop (i + 1) = b.drop (i + 1)) (hx : a.getD i 0 < b.getD i 0) : val a < val b := by
  rw [val_split hi, val_split hj, hd]
  have h1 := val_take_lt la i
  have h2 := lim_get la (i := i)
  have h3 : 2 ^ (64 * i) * ((a.getD i 0).toNat + 1 + 18446744073709551616 * val (b.drop (i + 1))) ≤ 2 ^ (64 * i) * ((b.getD i 0).toNat + 18446744073709551616 * val (b.drop (i + 1))) := Nat.mul_le_mul_left _ (by omega)
  rw [show (a.getD i 0).toNat + 1 + 18446744073709551616 * val (b.drop (i + 1)) = ((a.getD i 0).toNat + 18446744073709551616 * val (b.drop (i + 1))) + 1 by omega, Nat.mul_add] at h3
  omega
theorem len_lt {x y : Nat} (h : (limbs x).length < (limbs y).length) : x < y := by
  apply Classical.byContradiction
  intro hn
  have := blen_mono (show y ≤ x by omega)
  rw [len_limbs, len_limbs] at h
  omega
theorem drop_step {a b : List Int} {i : Nat} (hi : i < a.length) (hj : i < b.length) (hd : a.drop (i + 1) = b.drop (i + 1)) (hx : a.getD i 0 = b.getD i 0) : a.drop i = b.drop i := by
  have e1 : a.drop i = a.getD i 0 :: a.drop (i + 1) := by rw [List.drop_eq_getElem_cons hi, List.getD, List.getElem?_eq_getElem hi]; rfl
  have e2 : b.drop i = b.getD i 0 :: b.drop (i + 1) := by rw [List.drop_eq_getElem_cons hj, List.getD, List.getElem?_eq_getElem hj]; rfl
  rw [e1, e2, hd, hx]
theorem sz_limbs_le (n : Nat) : (limbs n).length = sz (limbs n) := (sz_limbs n).symm
theorem limbs_inj {x y : Nat} (h : limbs x = limbs y) : x = y := by rw [← val_limbs x, h, val_limbs]
theorem cmpI_lt {x y : Nat} (h : x < y) : cmpI x y = -1 := if_pos h
theorem cmpI_gt {x y : Nat} (h : y < x) : cmpI x y = 1 := by unfold cmpI; rw [if_neg (by omega), if_neg (by omega)]
theorem cmpI_eq {x y : Nat} (h : x = y) : cmpI x y = 0 := by unfold cmpI; rw [if_neg (by omega), if_pos h]
theorem cmpI_neg {x y : Nat} : cmpI x y < 0 ↔ x < y := by unfold cmpI; split <;> (try split) <;> omega
theorem sz_one {n : Int} : val [n] = n.toNat := by simp [val]
theorem lim_one {n : Int} (h : 0 ≤ n ∧ n < 18446744073709551616) : lim [n] := fun x hx => by
  rw [List.mem_singleton] at hx; subst hx; exact h
end Go.AM.LN
set_option maxRecDepth 20000
namespace Go.Proofs.AMT
open Go.AM Go.AM.LN
attribute [local congr] bindO_congr bindS_congr bindG_congr awpOps_congr aOne_congr awp_congr aCond_congr awpD_congr dOne_congr keysB_congr nOne_congr thenP_congr blockP_congr Chk_congr Brk_congr
noncomputable def s43 : CSpec := fun ds => match ds with
  | [.sl .u64 a] => some (lim a ∧ a.length ≤ 100000000, .one (.fresh .u64 (limbs (val a))))
  | _ => none
theorem s43_eq (a : List Int) : norm s43 [.sl .u64 a] = some (lim a ∧ a.length ≤ 100000000, .one (.fresh .u64 (limbs (val a)))) := rfl
theorem s43_nil1  : norm s43 [.v (.slice none 0 0)] = some (lim ([] : List Int) ∧ ([] : List Int).length ≤ 100000000, .one (.fresh .u64 (limbs (val ([] : List Int))))) := rfl
theorem k43_70 : lk G71 70 = some (.body, norm sClone) := rfl
theorem k43_71 : lk G71 71 = some (.body, norm s71) := rfl
set_option maxHeartbeats 20000000 in
theorem w43 (a : List Int) (hp : lim a ∧ a.length ≤ 100000000) : awp ty G71 (code Try.f43) (retP ty Try.f43.results.toList (.one (.fresh .u64 (limbs (val a))))) (entry 0 [.sl .u64 a]) [] := by
  unfold code
  simp only [Try.f43, Option.getD_some]
  have z := sz_le a
  all_goals repeat' (first
    | ((first
       | (with_reducible refine ops_k ?_; intro X hX)
       | (with_reducible refine opsN_k ?_; intro X hX)
       | (with_reducible show awp _ _ _ _ (keepL _ _) _)
       | with_reducible refine awp_cond_k ?_
       | (with_reducible refine Brk_i ?_ ?_ <;> intro hb <;> (try simp only [hb]) <;> have hq := hb <;> try simp only [decide_eq_true_eq, decide_eq_false_iff_not, gt_iff_lt, ge_iff_le, Int.not_lt, Int.not_le, beq_iff_eq, beq_eq_false_iff_ne, Bool.not_eq_true', Bool.not_eq_false', Bool.and_eq_true, Bool.or_eq_true, Bool.and_eq_false_imp, Bool.or_eq_false_iff, ne_eq, Classical.not_not] at hq)
       | with_reducible refine retP_ret_i ?_
       | with_reducible refine retP_normal_i ?_
       | (with_reducible (show bindG _ _ _ _ _); simp only [hall])) <;> try simp only [Go.AM.S1, Go.AM.S2, Go.AM.S3, Go.AM.S4, Go.AM.S5, Go.AM.S6, Go.AM.S7, Go.AM.S8, Go.AM.S9, Nat.reduceAdd, Nat.reduceMul, Nat.reduceSub, ↓reduceIte, Nat.reduceEqDiff, Nat.reduceLT, Nat.reduceLeDiff, reduceCtorEq, Int.reduceBEq, Int.reduceBNe, Nat.reduceBEq, Int.reduceEq, Int.reduceToNat, Int.reduceLE, Int.reduceLT, Nat.reduceDiv, Int.reduceAdd, Int.reduceSub, Int.reduceMul, Int.reduceNeg, Int.reduceGT, Int.reduceGE, Nat.reduceMod, k43_70, sClone_eq, sClone_nil, k43_71, s71_eq, s71_nil1, ty_26, ty_42, take_sz hp.1])
    | (with_reducible refine hX _ _ ?_; clear hX X)
    | with_reducible refine ops_nil_i ?_
    | with_reducible refine opsN_nil_i ?_
    | (with_reducible refine hK _ _ ?_; clear hK K)
    | with_reducible refine thenP_normal_i ?_
    | with_reducible refine zzr1 _ _ ?_
    | with_reducible refine zzr0 _ _ ?_
    | (with_reducible refine awp_seq_l (a := .region 1 _ _) [2] ?_; intro Kzzr1 zzr1)
    | (with_reducible refine awp_seq_l (a := .region 0 _ _) [0] ?_; intro Kzzr0 zzr0)
    | (with_reducible refine awp_seq_k ?_; intro K hK)
    | (with_reducible refine awp_region_a ?_; intro all hall K hK)
    | (with_reducible refine awp_draw_n ?_ ?_; kernel_rfl; intro all hall K hK)
    | (with_reducible refine Chk_i ?_ ?_)
    | (with_reducible refine keysC_i ?_; kernel_rfl)
    | (with_reducible first | refine awp_block_i ?_ | refine awp_skip_i ?_ | refine awp_ret_i ?_ | refine awp_exit_i ?_ | refine thenP_ret_i ?_ | refine thenP_exit_i ?_ | refine lpP_ret_i ?_ | refine lpP_exit_i ?_ | refine unrP_succ_i ?_ | refine unrP_ret_i ?_ | refine unrP_exit_i ?_ | refine blockP_normal_i ?_ | refine blockP_ret_i ?_)
    | (with_reducible refine blockP_exit_i ?_; simp only [↓reduceIte, Nat.reduceEqDiff])
    | with_reducible refine lpP_normal_i ?_)
  all_goals first
    | omega
    | (rw [← take_sz hp.1, List.length_take]; omega)
theorem sound_43 : Sound Try.prog 43 .body (norm s43) := by
  refine sound_norm (sound_body Try.func43 (show Try.f43.body = some (code Try.f43) from rfl) (by kernel_rfl) tysOk G71_ok (drawOk_ok (by kernel_rfl) tysOk G71_ok) (by kernel_rfl) fun ds p r hs hp => ?_)
  unfold s43 at hs
  split at hs
  · cases hs; exact ⟨Nat.le_of_ble_eq_true (by kernel_rfl), w43 _ hp⟩
  · cases hs
noncomputable def G43 : Gam := (43, .body, norm s43) :: G71
theorem G43_ok : GamOk Try.prog G43 := gamOk_cons sound_43 G71_ok
noncomputable def s28 : CSpec := fun ds => match ds with
  | [.v (.int .u64 n)] => some (0 ≤ n ∧ n < 18446744073709551616, .one (.fresh .u64 (limbs n.toNat)))
  | _ => none
theorem s28_eq (n : Int) : norm s28 [.v (.int .u64 n)] = some (0 ≤ n ∧ n < 18446744073709551616, .one (.fresh .u64 (limbs n.toNat))) := rfl
theorem k28_43 : lk G43 43 = some (.body, norm s43) := rfl
set_option maxHeartbeats 20000000 in
theorem w28 (n : Int) (hp : 0 ≤ n ∧ n < 18446744073709551616) : awp ty G43 (code Try.f28) (retP ty Try.f28.results.toList (.one (.fresh .u64 (limbs n.toNat)))) (entry 0 [.v (.int .u64 n)]) [] := by
  unfold code
  simp only [Try.f28, Option.getD_some]
  all_goals repeat' (first
    | ((first
       | (with_reducible refine ops_k ?_; intro X hX)
       | (with_reducible refine opsN_k ?_; intro X hX)
       | (with_reducible show awp _ _ _ _ (keepL _ _) _)
       | with_reducible refine awp_cond_k ?_
       | (with_reducible refine Brk_i ?_ ?_ <;> intro hb <;> (try simp only [hb]) <;> have hq := hb <;> try simp only [decide_eq_true_eq, decide_eq_false_iff_not, gt_iff_lt, ge_iff_le, Int.not_lt, Int.not_le, beq_iff_eq, beq_eq_false_iff_ne, Bool.not_eq_true', Bool.not_eq_false', Bool.and_eq_true, Bool.or_eq_true, Bool.and_eq_false_imp, Bool.or_eq_false_iff, ne_eq, Classical.not_not] at hq)
       | with_reducible refine retP_ret_i ?_
       | with_reducible refine retP_normal_i ?_
       | (with_reducible (show bindG _ _ _ _ _); simp only [hall])) <;> try simp only [Go.AM.S1, Go.AM.S2, Go.AM.S3, Go.AM.S4, Go.AM.S5, Go.AM.S6, Go.AM.S7, Go.AM.S8, Go.AM.S9, Nat.reduceAdd, Nat.reduceMul, Nat.reduceSub, ↓reduceIte, Nat.reduceEqDiff, Nat.reduceLT, Nat.reduceLeDiff, reduceCtorEq, Int.reduceBEq, Int.reduceBNe, Nat.reduceBEq, Int.reduceEq, Int.reduceToNat, Int.reduceLE, Int.reduceLT, Nat.reduceDiv, Int.reduceAdd, Int.reduceSub, Int.reduceMul, Int.reduceNeg, Int.reduceGT, Int.reduceGE, Nat.reduceMod, k28_43, s43_eq, s43_nil1, ty_26, ty_42, sz_one, toInts])
    | (with_reducible refine hX _ _ ?_; clear hX X)
    | with_reducible refine ops_nil_i ?_
    | with_reducible refine opsN_nil_i ?_
    | (with_reducible refine hK _ _ ?_; clear hK K)
    | with_reducible refine thenP_normal_i ?_
    | with_reducible refine zzr1 _ _ ?_
    | with_reducible refine zzr0 _ _ ?_
    | (with_reducible refine awp_seq_l (a := .region 1 _ _) [2] ?_; intro Kzzr1 zzr1)
    | (with_reducible refine awp_seq_l (a := .region 0 _ _) [0] ?_; intro Kzzr0 zzr0)
    | (with_reducible refine awp_seq_k ?_; intro K hK)
    | (with_reducible refine awp_region_a ?_; intro all hall K hK)
    | (with_reducible refine awp_draw_n ?_ ?_; kernel_rfl; intro all hall K hK)
    | (with_reducible refine Chk_i ?_ ?_)
    | (with_reducible refine keysC_i ?_; kernel_rfl)
    | (with_reducible first | refine awp_block_i ?_ | refine awp_skip_i ?_ | refine awp_ret_i ?_ | refine awp_exit_i ?_ | refine thenP_ret_i ?_ | refine thenP_exit_i ?_ | refine lpP_ret_i ?_ | refine lpP_exit_i ?_ | refine unrP_succ_i ?_ | refine unrP_ret_i ?_ | refine unrP_exit_i ?_ | refine blockP_normal_i ?_ | refine blockP_ret_i ?_)
    | (with_reducible refine blockP_exit_i ?_; simp only [↓reduceIte, Nat.reduceEqDiff])
    | with_reducible refine lpP_normal_i ?_)
  all_goals first
    | exact lim_one hp
    | exact ⟨lim_one hp, Nat.le_of_ble_eq_true rfl⟩
theorem sound_28 : Sound Try.prog 28 .body (norm s28) := by
  refine sound_norm (sound_body Try.func28 (show Try.f28.body = some (code Try.f28) from rfl) (by kernel_rfl) tysOk G43_ok (drawOk_ok (by kernel_rfl) tysOk G43_ok) (by kernel_rfl) fun ds p r hs hp => ?_)
  unfold s28 at hs
  split at hs
  · cases hs; exact ⟨Nat.le_of_ble_eq_true (by kernel_rfl), w28 _ hp⟩
  · cases hs
noncomputable def G28 : Gam := (28, .body, norm s28) :: G43
theorem G28_ok : GamOk Try.prog G28 := gamOk_cons sound_28 G43_ok
noncomputable def s46 : CSpec := fun ds => match ds with
  | [.sl .u64 a, .sl .u64 b] => some ((lim a ∧ a.length ≤ 100000000) ∧ lim b ∧ b.length ≤ 100000000, .one (.v (.int .i64 (cmpI (val a) (val b)))))
  | _ => none
theorem s46_eq (a : List Int) (b : List Int) : norm s46 [.sl .u64 a, .sl .u64 b] = some ((lim a ∧ a.length ≤ 100000000) ∧ lim b ∧ b.length ≤ 100000000, .one (.v (.int .i64 (cmpI (val a) (val b))))) := rfl
theorem s46_nil1  (b : List Int) : norm s46 [.v (.slice none 0 0), .sl .u64 b] = some ((lim ([] : List Int) ∧ ([] : List Int).length ≤ 100000000) ∧ lim b ∧ b.length ≤ 100000000, .one (.v (.int .i64 (cmpI (val ([] : List Int)) (val b))))) := rfl
theorem s46_nil2 (a : List Int)  : norm s46 [.sl .u64 a, .v (.slice none 0 0)] = some ((lim a ∧ a.length ≤ 100000000) ∧ lim ([] : List Int) ∧ ([] : List Int).length ≤ 100000000, .one (.v (.int .i64 (cmpI (val a) (val ([] : List Int)))))) := rfl
theorem s46_nil3   : norm s46 [.v (.slice none 0 0), .v (.slice none 0 0)] = some ((lim ([] : List Int) ∧ ([] : List Int).length ≤ 100000000) ∧ lim ([] : List Int) ∧ ([] : List Int).length ≤ 100000000, .one (.v (.int .i64 (cmpI (val ([] : List Int)) (val ([] : List Int)))))) := rfl
theorem k46_71 : lk G28 71 = some (.body, norm s71) := rfl
set_option maxHeartbeats 20000000 in
theorem w46 (a : List Int) (b : List Int) (hp : (lim a ∧ a.length ≤ 100000000) ∧ lim b ∧ b.length ≤ 100000000) : awp ty G28 (code Try.f46) (retP ty Try.f46.results.toList (.one (.v (.int .i64 (cmpI (val a) (val b)))))) (entry 0 [.sl .u64 a, .sl .u64 b]) [] := by
  unfold code
  simp only [Try.f46, Option.getD_some]
  have za := sz_le a
  have zb := sz_le b
  have ya := len_limbs_sz hp.1.1
  have yb := len_limbs_sz hp.2.1
  have la := lim_limbs (val a)
  have lb := lim_limbs (val b)
  all_goals repeat' (first
    | ((first
       | (with_reducible refine ops_k ?_; intro X hX)
       | (with_reducible refine opsN_k ?_; intro X hX)
       | (with_reducible show awp _ _ _ _ (keepL _ _) _)
       | with_reducible refine awp_cond_k ?_
       | (with_reducible refine Brk_i ?_ ?_ <;> intro hb <;> (try simp only [hb]) <;> have hq := hb <;> try simp only [decide_eq_true_eq, decide_eq_false_iff_not, gt_iff_lt, ge_iff_le, Int.not_lt, Int.not_le, beq_iff_eq, beq_eq_false_iff_ne, Bool.not_eq_true', Bool.not_eq_false', Bool.and_eq_true, Bool.or_eq_true, Bool.and_eq_false_imp, Bool.or_eq_false_iff, ne_eq, Classical.not_not] at hq)
       | with_reducible refine retP_ret_i ?_
       | with_reducible refine retP_normal_i ?_
       | (with_reducible (show bindG _ _ _ _ _); simp only [hall])) <;> try simp only [Go.AM.S1, Go.AM.S2, Go.AM.S3, Go.AM.S4, Go.AM.S5, Go.AM.S6, Go.AM.S7, Go.AM.S8, Go.AM.S9, Nat.reduceAdd, Nat.reduceMul, Nat.reduceSub, ↓reduceIte, Nat.reduceEqDiff, Nat.reduceLT, Nat.reduceLeDiff, reduceCtorEq, Int.reduceBEq, Int.reduceBNe, Nat.reduceBEq, Int.reduceEq, Int.reduceToNat, Int.reduceLE, Int.reduceLT, Nat.reduceDiv, Int.reduceAdd, Int.reduceSub, Int.reduceMul, Int.reduceNeg, Int.reduceGT, Int.reduceGE, Nat.reduceMod, k46_71, s71_eq, s71_nil1, ty_3, ty_26, ty_42, take_sz hp.1.1, take_sz hp.2.1])
    | (with_reducible refine hX _ _ ?_; clear hX X)
    | with_reducible refine ops_nil_i ?_
    | with_reducible refine opsN_nil_i ?_
    | (with_reducible refine hK _ _ ?_; clear hK K)
    | with_reducible refine thenP_normal_i ?_
    | with_reducible refine zzr13 _ _ ?_
    | with_reducible refine zzsr6 _ _ ?_
    | with_reducible refine zzb1 _ _ ?_
    | with_reducible refine zzr12 _ _ ?_
    | with_reducible refine zzsr10 _ _ ?_
    | with_reducible refine zzr11 _ _ ?_
    | with_reducible refine zzr10 _ _ ?_
    | with_reducible refine zzr9 _ _ ?_
    | with_reducible refine zzsr7 _ _ ?_
    | with_reducible refine zzr7 _ _ ?_
    | with_reducible refine zzr6 _ _ ?_
    | with_reducible refine zzsr2 _ _ ?_
    | with_reducible refine zzr5 _ _ ?_
    | with_reducible refine zzsr3 _ _ ?_
    | with_reducible refine zzr4 _ _ ?_
    | with_reducible refine zzr3 _ _ ?_
    | with_reducible refine zzr2 _ _ ?_
    | with_reducible refine zzr1 _ _ ?_
    | with_reducible refine zzr0 _ _ ?_
    | (with_reducible refine awp_lp (σ := Nat) (fun n => n ≤ (limbs (val a)).length ∧ (limbs (val a)).drop n = (limbs (val b)).drop n) (fun n => [(0, .rd .u64 (limbs (val a))), (1, .rd .u64 (limbs (val b))), (5, .v (.int .i64 ((n : Int) - 1)))]) (fun _ => []) (fun n => n) (limbs (val a)).length ?_ ?_ (fun s hs => ?_))
    | (with_reducible refine awp_seq_l (a := .region 13 _ _) [4] ?_; intro Kzzr13 zzr13)
    | (with_reducible refine awp_seq_l (a := .seq (.region 6 _ _) _) [] ?_; intro Kzzsr6 zzsr6)
    | (with_reducible refine awp_seq_l (a := .block 1 _) [0, 1, 5] ?_; intro Kzzb1 zzb1)
    | (with_reducible refine awp_seq_l (a := .region 12 _ _) [4] ?_; intro Kzzr12 zzr12)
    | (with_reducible refine awp_seq_l (a := .seq (.region 10 _ _) _) [] ?_; intro Kzzsr10 zzsr10)
    | (with_reducible refine awp_seq_l (a := .region 11 _ _) [4] ?_; intro Kzzr11 zzr11)
    | (with_reducible refine awp_seq_l (a := .region 10 _ _) [48] ?_; intro Kzzr10 zzr10)
    | (with_reducible refine awp_seq_l (a := .region 9 _ _) [0, 1, 5, 39] ?_; intro Kzzr9 zzr9)
    | (with_reducible refine awp_seq_l (a := .seq (.region 7 _ _) _) [0, 1, 5] ?_; intro Kzzsr7 zzsr7)
    | (with_reducible refine awp_seq_l (a := .region 7 _ _) [0, 1, 5, 28] ?_; intro Kzzr7 zzr7)
    | (with_reducible refine awp_seq_l (a := .region 6 _ _) [0, 1, 5] ?_; intro Kzzr6 zzr6)
    | (with_reducible refine awp_seq_l (a := .seq (.region 2 _ _) _) [0, 1] ?_; intro Kzzsr2 zzsr2)
    | (with_reducible refine awp_seq_l (a := .region 5 _ _) [4] ?_; intro Kzzr5 zzr5)
    | (with_reducible refine awp_seq_l (a := .seq (.region 3 _ _) _) [] ?_; intro Kzzsr3 zzsr3)
    | (with_reducible refine awp_seq_l (a := .region 4 _ _) [4] ?_; intro Kzzr4 zzr4)
    | (with_reducible refine awp_seq_l (a := .region 3 _ _) [23] ?_; intro Kzzr3 zzr3)
    | (with_reducible refine awp_seq_l (a := .region 2 _ _) [0, 1, 18] ?_; intro Kzzr2 zzr2)
    | (with_reducible refine awp_seq_l (a := .region 1 _ _) [0, 1] ?_; intro Kzzr1 zzr1)
    | (with_reducible refine awp_seq_l (a := .region 0 _ _) [0, 1] ?_; intro Kzzr0 zzr0)
    | (with_reducible refine awp_seq_k ?_; intro K hK)
    | (with_reducible refine awp_region_a ?_; intro all hall K hK)
    | (with_reducible refine awp_draw_n ?_ ?_; kernel_rfl; intro all hall K hK)
    | (with_reducible refine Chk_i ?_ ?_)
    | (with_reducible refine keysC_i ?_; kernel_rfl)
    | (with_reducible first | refine awp_block_i ?_ | refine awp_skip_i ?_ | refine awp_ret_i ?_ | refine awp_exit_i ?_ | refine thenP_ret_i ?_ | refine thenP_exit_i ?_ | refine lpP_ret_i ?_ | refine lpP_exit_i ?_ | refine unrP_succ_i ?_ | refine unrP_ret_i ?_ | refine unrP_exit_i ?_ | refine blockP_normal_i ?_ | refine blockP_ret_i ?_)
    | (with_reducible refine blockP_exit_i ?_; simp only [↓reduceIte, Nat.reduceEqDiff])
    | with_reducible refine lpP_normal_i ?_)
  all_goals (try simp only [inR])
  all_goals (try omega)
  · have h := len_lt (x := val a) (y := val b) (by omega)
    rw [cmpI_lt h]
  · have h := len_lt (x := val b) (y := val a) (by omega)
    rw [cmpI_gt h]
  · exact ⟨Nat.le_refl _, by rw [List.drop_length, List.drop_eq_nil_of_le (by omega)]⟩
  · exact Ent.refl _ _
  · have e : ((s : Int) - 1).toNat = s - 1 := by omega
    rw [e] at hq
    have h := cmp_lt la lb (i := s - 1) (by omega) (by omega) (by rw [show s - 1 + 1 = s by omega]; exact hs.2) hq
    rw [val_limbs, val_limbs] at h
    rw [cmpI_lt h]
  · have e : ((s : Int) - 1).toNat = s - 1 := by omega
    simp only [e] at *
    have h := cmp_lt lb la (i := s - 1) (by omega) (by omega) (by rw [show s - 1 + 1 = s by omega]; exact hs.2.symm) (by omega)
    rw [val_limbs, val_limbs] at h
    rw [cmpI_gt h]
  · refine ⟨s - 1, by (refine ent_ok [] rfl ?_ ?_ <;> simp only [memLe, slotsLe, AvLe, lk, ↓reduceIte, Nat.reduceEqDiff, Option.isSome_some, and_self, and_true, true_and, reduceCtorEq, List.map_nil, List.map_cons, Option.some.injEq, AV.v.injEq, Value.int.injEq, Value.bool.injEq, AV.rd.injEq, AV.ow.injEq, AV.al.injEq, AV.ref.injEq] <;> omega), ⟨by omega, ?_⟩, by omega⟩
    have e : ((s : Int) - 1).toNat = s - 1 := by omega
    rw [e] at hq
    exact drop_step (by omega) (by omega) (by rw [show s - 1 + 1 = s by omega]; exact hs.2) hq
  · have h0 : s = 0 := by omega
    subst h0
    have := limbs_inj (x := val a) (y := val b) (by simpa using hs.2)
    rw [cmpI_eq this]
theorem sound_46 : Sound Try.prog 46 .body (norm s46) := by
  refine sound_norm (sound_body Try.func46 (show Try.f46.body = some (code Try.f46) from rfl) (by kernel_rfl) tysOk G28_ok (drawOk_ok (by kernel_rfl) tysOk G28_ok) (by kernel_rfl) fun ds p r hs hp => ?_)
  unfold s46 at hs
  split at hs
  · cases hs; exact ⟨Nat.le_of_ble_eq_true (by kernel_rfl), w46 _ _ hp⟩
  · cases hs
noncomputable def G46 : Gam := (46, .body, norm s46) :: G28
theorem G46_ok : GamOk Try.prog G46 := gamOk_cons sound_46 G28_ok
end Go.Proofs.AMT
namespace Go.AM.LN
theorem getD_out {a : List Int} {i : Nat} (h : a.length ≤ i) : a.getD i 0 = 0 := by simp [List.getD, List.getElem?_eq_none h]
theorem val_take_succ' (a : List Int) (i : Nat) : val (a.take (i + 1)) = val (a.take i) + 2 ^ (64 * i) * (a.getD i 0).toNat := by
  by_cases h : i < a.length
  · exact val_take_succ h
  · rw [List.take_of_length_le (by omega), List.take_of_length_le (by omega), getD_out (by omega)]; simp
theorem take_set_succ {o : List Int} {i : Nat} (h : i < o.length) (v : Int) : (o.set i v).take (i + 1) = o.take i ++ [v] := by
  rw [take_succ (by simpa using h)]
  congr 1
  · rw [List.take_set_of_le (Nat.le_refl i)]
  · simp [List.getD, h]
theorem val_take_set {o : List Int} {i : Nat} (h : i < o.length) (v : Int) : val ((o.set i v).take (i + 1)) = val (o.take i) + 2 ^ (64 * i) * v.toNat := by
  rw [take_set_succ h, val_snoc, List.length_take, Nat.min_eq_left (by omega)]
theorem val_set_last {o : List Int} {n : Nat} (h : o.length = n + 1) (v : Int) : val (o.set n v) = val (o.take n) + 2 ^ (64 * n) * v.toNat := by
  rw [← val_take_set (by omega) v, List.take_of_length_le (by simp; omega)]
theorem add_step {x y o : List Int} {i c : Nat} (lx : lim x) (ly : lim y) (ho : i < o.length) (h : val (o.take i) + c * 2 ^ (64 * i) = val (x.take i) + val (y.take i)) :
    val ((o.set i ((x.getD i 0 + y.getD i 0 + (c : Int)) % 18446744073709551616)).take (i + 1)) + ((x.getD i 0 + y.getD i 0 + (c : Int)) / 18446744073709551616).toNat * 2 ^ (64 * (i + 1)) = val (x.take (i + 1)) + val (y.take (i + 1)) := by
  rw [val_take_set ho, val_take_succ', val_take_succ', p64]
  have h1 := lim_get lx (i := i)
  have h2 := lim_get ly (i := i)
  generalize x.getD i 0 = p at *
  generalize y.getD i 0 = q at *
  have e1 : ((p + q + (c : Int)) % 18446744073709551616).toNat = (p.toNat + q.toNat + c) % 18446744073709551616 := by omega
  have e2 : ((p + q + (c : Int)) / 18446744073709551616).toNat = (p.toNat + q.toNat + c) / 18446744073709551616 := by omega
  rw [e1, e2]
  generalize 2 ^ (64 * i) = P at *
  have e3 := Nat.div_add_mod (p.toNat + q.toNat + c) 18446744073709551616
  generalize (p.toNat + q.toNat + c) / 18446744073709551616 = d at *
  generalize (p.toNat + q.toNat + c) % 18446744073709551616 = m at *
  have e4 : P * m + d * (18446744073709551616 * P) = P * (p.toNat + q.toNat + c) := by
    rw [← e3, Nat.mul_add, Nat.add_comm]; congr 1
    exact (by ac_rfl)
  rw [Nat.mul_add, Nat.mul_add] at e4
  rw [Nat.mul_comm c P] at h
  omega
theorem sub_step {a b o : List Int} {i c : Nat} (lo : lim o) (lb : lim b) (hc : c ≤ 1) (ho : i < o.length) (hd : o.drop i = a.drop i) (hl : o.length = a.length) (h : val (o.take i) + val (b.take i) = val (a.take i) + c * 2 ^ (64 * i)) :
    val ((o.set i ((o.getD i 0 - b.getD i 0 - (c : Int)) % 18446744073709551616)).take (i + 1)) + val (b.take (i + 1)) = val (a.take (i + 1)) + (if o.getD i 0 < b.getD i 0 + (c : Int) then 1 else 0) * 2 ^ (64 * (i + 1)) := by
  have ha : a.getD i 0 = o.getD i 0 := by
    have h1 : o.drop i = o.getD i 0 :: o.drop (i + 1) := by rw [List.drop_eq_getElem_cons ho, List.getD, List.getElem?_eq_getElem ho]; rfl
    have h2 : a.drop i = a.getD i 0 :: a.drop (i + 1) := by rw [List.drop_eq_getElem_cons (by omega : i < a.length), List.getD, List.getElem?_eq_getElem (by omega : i < a.length)]; rfl
    rw [h1, h2] at hd
    exact (List.cons.inj hd).1.symm
  rw [val_take_set ho, val_take_succ', val_take_succ', p64, ha]
  have h1 := lim_get lo (i := i)
  have h2 := lim_get lb (i := i)
  generalize o.getD i 0 = p at *
  generalize b.getD i 0 = q at *
  generalize 2 ^ (64 * i) = P at *
  have e1 : ((p - q - (c : Int)) % 18446744073709551616).toNat + (q.toNat + c) = p.toNat + (if p < q + (c : Int) then 1 else 0) * 18446744073709551616 := by
    split <;> omega
  generalize ((p - q - (c : Int)) % 18446744073709551616).toNat = m at *
  generalize (if p < q + (c : Int) then 1 else 0) = d at *
  have e2 : P * m + P * q.toNat + c * P = P * p.toNat + d * (18446744073709551616 * P) := by
    have := congrArg (P * ·) e1
    simp only [Nat.mul_add] at this
    rw [Nat.mul_comm c P, Nat.mul_comm d, Nat.mul_comm 18446744073709551616 P, Nat.mul_assoc, Nat.mul_comm 18446744073709551616 d]
    omega
  omega
theorem drop_set_succ {o : List Int} {i : Nat} (v : Int) : (o.set i v).drop (i + 1) = o.drop (i + 1) := by
  rw [List.drop_set_of_lt (by omega)]
theorem drop_succ_of {o a : List Int} {i : Nat} (h : o.drop i = a.drop i) : o.drop (i + 1) = a.drop (i + 1) := by
  have := congrArg (List.drop 1) h
  simpa [List.drop_drop, Nat.add_comm] using this
theorem sub_fin {a b o : List Int} {c : Nat} (la : lim a) (lo : lim o) (lb : lim b) (hl : o.length = a.length) (hb : val b ≤ val a) (h : val o + val (b.take a.length) = val a + c * 2 ^ (64 * a.length)) : val o = val a - val b := by
  have h1 := val_lt la
  have h2 := val_lt lo
  rw [hl] at h2
  rw [val_take b _ lb, Nat.mod_eq_of_lt (by omega)] at h
  have hc : c = 0 := by
    apply Classical.byContradiction
    intro hn
    have : 1 * 2 ^ (64 * a.length) ≤ c * 2 ^ (64 * a.length) := Nat.mul_le_mul_right _ (by omega)
    omega
  subst hc
  omega
theorem sub_fin_c {a b o : List Int} {c : Nat} (la : lim a) (lo : lim o) (lb : lim b) (hl : o.length = a.length) (hb : val b ≤ val a) (h : val o + val (b.take a.length) = val a + c * 2 ^ (64 * a.length)) : c = 0 := by
  have h1 := val_lt la
  have h2 := val_lt lo
  rw [hl] at h2
  rw [val_take b _ lb, Nat.mod_eq_of_lt (by omega)] at h
  apply Classical.byContradiction
  intro hn
  have : 1 * 2 ^ (64 * a.length) ≤ c * 2 ^ (64 * a.length) := Nat.mul_le_mul_right _ (by omega)
  omega
end Go.AM.LN
