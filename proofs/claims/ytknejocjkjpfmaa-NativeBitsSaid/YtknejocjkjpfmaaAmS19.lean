/- Part AmS19 of the proof: own text. -/
import Derived.Test.YtknejocjkjpfmaaAmS20
set_option linter.all false
namespace Go.AM
open Go.RowKit (Below)
variable {V : Nat → Prop} {w0 : World} {N : Nat}

/-- What a slot is known to hold, seen from a state with other names for the blocks (ρ: the new name to the old one). -/
def AvLe (ρ : List (Nat × Nat)) (mem mem' : List (Nat × Ct × Bool)) (a : Option AV) : AV → Prop
  | .dead => a.isSome = true
  | .tup _ => False
  | .v x => a = some (.v x)
  | .pt _ => False
  | .ref k' o => match lk ρ k' with
    | some k => a = some (.ref k o) ∧ (lk mem' k').isSome = true
    | none => False
  | .ow k' => match lk ρ k' with
    | some k => a = some (.ow k) ∧ (lk mem' k').isSome = true
    | none => a = some (.v (.slice none 0 0)) ∧ (lk mem' k').isSome = true
  | .al k' lo n => match lk ρ k' with
    | some k => a = some (.al k lo n) ∧ (lk mem' k').isSome = true
    | none => False
  | .ows k' n => match lk ρ k' with
    | some k => a = some (.ows k n) ∧ (lk mem' k').isSome = true
    | none => False
  | .rd kk l => match a with
    | some (.rd kk' l') => kk' = kk ∧ l' = l
    | some (.v (.slice none 0 0)) => l = []
    | some (.ow k) => (match lk mem k with
      | some (.ints kk' l', _) => kk' = kk ∧ l' = l
      | _ => False) ∧ (ρ.map (·.2)).contains k = false
    | _ => False
def slotsLe (ρ : List (Nat × Nat)) (mem mem' : List (Nat × Ct × Bool)) (env : List (Nat × AV)) : List (Nat × AV) → Prop
  | [] => True
  | (t, a) :: l => AvLe ρ mem mem' (lk env t) a ∧ slotsLe ρ mem mem' env l
def memLe (ρ : List (Nat × Nat)) (mem : List (Nat × Ct × Bool)) : List (Nat × Ct × Bool) → Prop
  | [] => True
  | (k', c, fr) :: l => (match lk ρ k' with
    | some k => match lk mem k with
      | some (c', fr') => c' = c ∧ fr' = fr
      | none => False
    | none => c.len = 0) ∧ memLe ρ mem l
theorem slotsLe_lk {ρ : List (Nat × Nat)} {mem mem' : List (Nat × Ct × Bool)} {env : List (Nat × AV)} : ∀ {env' : List (Nat × AV)}, slotsLe ρ mem mem' env env' → ∀ t a, lk env' t = some a → AvLe ρ mem mem' (lk env t) a
  | [], _, t, a, h => by cases h
  | (t0, a0) :: l, h, t, a, ht => by
    simp only [lk] at ht
    split at ht
    · rename_i he; subst he; cases ht; exact h.1
    · exact slotsLe_lk h.2 t a ht
theorem memLe_lk {ρ : List (Nat × Nat)} {mem : List (Nat × Ct × Bool)} : ∀ {mem' : List (Nat × Ct × Bool)}, memLe ρ mem mem' → ∀ k' c fr, lk mem' k' = some (c, fr) → (∃ k, lk ρ k' = some k ∧ lk mem k = some (c, fr)) ∨ (lk ρ k' = none ∧ c.len = 0)
  | [], _, k', c, fr, h => by cases h
  | (k0, c0, fr0) :: l, h, k', c, fr, hk => by
    simp only [lk] at hk
    split at hk
    · rename_i he
      subst he
      cases hk
      have h1 := h.1
      cases hr : lk ρ k' with
      | none => rw [hr] at h1; exact .inr ⟨rfl, h1⟩
      | some k =>
        rw [hr] at h1
        simp only at h1
        cases hm : lk mem k with
        | none => rw [hm] at h1; exact h1.elim
        | some x => rw [hm] at h1; obtain ⟨c', fr'⟩ := x; obtain ⟨rfl, rfl⟩ := h1; exact .inl ⟨k, rfl, hm⟩
    · exact memLe_lk h.2 k' c fr hk
theorem rho_inj : ∀ {ρ : List (Nat × Nat)}, nodupN (ρ.map (·.2)) = true → ∀ k1 k2 k, lk ρ k1 = some k → lk ρ k2 = some k → k1 = k2
  | [], _, k1, k2, k, h, _ => by cases h
  | (j, y) :: l, hn, k1, k2, k, h1, h2 => by
    have hn := nodupN_ok hn
    simp only [List.map_cons, List.nodup_cons] at hn
    simp only [lk] at h1 h2
    split at h1 <;> split at h2
    · rename_i e1 e2; rw [e1, e2]
    · cases h1; exact absurd (List.mem_map.2 ⟨_, lk_mem h2, rfl⟩) hn.1
    · cases h2; exact absurd (List.mem_map.2 ⟨_, lk_mem h1, rfl⟩) hn.1
    · have : nodupN (l.map (·.2)) = true := by
        have h3 := ‹nodupN (((j, y) :: l).map (·.2)) = true›
        simp only [List.map_cons, nodupN, Bool.and_eq_true] at h3
        exact h3.2
      exact rho_inj this k1 k2 k h1 h2
/-- Another state that says no more. -/
theorem ent_ok (ρ : List (Nat × Nat)) {env env' : List (Nat × AV)} {mem mem' : List (Nat × Ct × Bool)} (hρ : nodupN (ρ.map (·.2)) = true) (hm : memLe ρ mem mem') (hs : slotsLe ρ mem mem' env env') : Ent env mem env' mem' := by
  rintro V w0 N a w ⟨β, h⟩
  let β' : Nat → Option Nat := fun k' => (lk ρ k').bind β
  have hinj : Inj β' (lk mem') := by
    intro k1 k2 b h1 h2 e1 e2
    simp only [β'] at e1 e2
    obtain ⟨j1, hj1, hb1⟩ := Option.bind_eq_some_iff.1 e1
    obtain ⟨j2, hj2, hb2⟩ := Option.bind_eq_some_iff.1 e2
    have dom : ∀ k j, lk ρ k = some j → (lk mem' k).isSome = true → (lk mem j).isSome = true := fun k j hk hs => by
      obtain ⟨⟨c, fr⟩, hc⟩ := Option.isSome_iff_exists.1 hs
      rcases memLe_lk hm k c fr hc with ⟨j', h3, h4⟩ | ⟨h3, _⟩
      · rw [hk] at h3; cases h3; rw [h4]; rfl
      · rw [hk] at h3; cases h3
    have := h.inj j1 j2 b (dom _ _ hj1 h1) (dom _ _ hj2 h2) hb1 hb2
    subst this
    exact rho_inj hρ k1 k2 j1 hj1 hj2
  have apart : ∀ b, Apart β (lk mem) b → Apart β' (lk mem') b := by
    intro b ha k' c hc he
    simp only [β'] at he
    obtain ⟨k, hk, hb⟩ := Option.bind_eq_some_iff.1 he
    rcases memLe_lk hm k' c false hc with ⟨j, h3, h4⟩ | ⟨h3, _⟩
    · rw [hk] at h3; cases h3; exact ha k c h4 hb
    · rw [hk] at h3; cases h3
  refine ⟨β', h.fresh, h.below, h.size, h.defers, ?_, hinj, ?_⟩
  · intro k' c fr hc
    rcases memLe_lk hm k' c fr hc with ⟨k, h3, h4⟩ | ⟨h3, h4⟩
    · have := h.mem k c fr h4
      simp only [β', h3, Option.bind_some]
      exact this
    · have hnil : c.cells = [] := by cases c <;> simp_all [Ct.len, Ct.cells]
      exact ⟨by rw [hnil]; rfl, .inl ⟨by simp [β', h3], h4⟩⟩
  · intro t av' ht
    have hle := slotsLe_lk hs t av' ht
    have get : ∀ av, lk env t = some av → ∃ v, a.tmps[t]? = some v ∧ RepA V β (lk mem) w av v := fun av he => h.slots t av he
    cases av' with
    | dead =>
      obtain ⟨av, ha⟩ := Option.isSome_iff_exists.1 hle
      obtain ⟨v, hv, _⟩ := get _ ha
      exact ⟨v, hv, trivial⟩
    | tup l => exact hle.elim
    | v x => exact get _ hle
    | pt x => exact hle.elim
    | ref k' o =>
      simp only [AvLe] at hle
      split at hle
      · rename_i k hk
        obtain ⟨v, hv, hr⟩ := get _ hle.1
        obtain ⟨h1, b, h2, h3⟩ := hr
        exact ⟨v, hv, hle.2, b, by simp [β', hk, h2], h3⟩
      · exact hle.elim
    | ow k' =>
      simp only [AvLe] at hle
      split at hle
      · rename_i k hk
        obtain ⟨v, hv, c, fr, cap, h1, h2, h3, h4⟩ := get _ hle.1
        obtain ⟨⟨c', fr'⟩, hc'⟩ := Option.isSome_iff_exists.1 hle.2
        rcases memLe_lk hm k' c' fr' hc' with ⟨j, h5, h6⟩ | ⟨h5, _⟩
        · rw [hk] at h5; cases h5
          rw [h1] at h6; cases h6
          exact ⟨v, hv, c, fr, cap, hc', h2.mono (by simp [β', hk]) (fun b _ => Nat.le_refl _), h3, by simp only [β', hk, Option.bind_some]; exact h4⟩
        · rw [hk] at h5; cases h5
      · rename_i hk
        obtain ⟨v, hv, hr⟩ := get _ hle.1
        obtain ⟨⟨c', fr'⟩, hc'⟩ := Option.isSome_iff_exists.1 hle.2
        rcases memLe_lk hm k' c' fr' hc' with ⟨j, h5, h6⟩ | ⟨h5, h6⟩
        · rw [hk] at h5; cases h5
        · exact ⟨v, hv, c', fr', 0, hc', ⟨Nat.zero_le _, fun b _ => Nat.zero_le _⟩, by omega, .inl ⟨by simp [β', hk], h6, hr⟩⟩
    | al k' lo n =>
      simp only [AvLe] at hle
      split at hle
      · rename_i k hk
        obtain ⟨v, hv, ⟨c, fr, h1, h2⟩, A, cap, h3, h4, h5, h6⟩ := get _ hle.1
        obtain ⟨⟨c', fr'⟩, hc'⟩ := Option.isSome_iff_exists.1 hle.2
        rcases memLe_lk hm k' c' fr' hc' with ⟨j, h7, h8⟩ | ⟨h7, _⟩
        · rw [hk] at h7; cases h7
          rw [h1] at h8; cases h8
          exact ⟨v, hv, ⟨c, fr, hc', h2⟩, A, cap, h3, h4, h5.mono (by simp [β', hk]) (fun b _ => Nat.le_refl _), by simp only [β', hk, Option.bind_some]; exact h6⟩
        · rw [hk] at h7; cases h7
      · exact hle.elim
    | ows k' n =>
      simp only [AvLe] at hle
      split at hle
      · rename_i k hk
        obtain ⟨v, hv, c, fr, cap, b, h1, h2, h3, h4, h5⟩ := get _ hle.1
        obtain ⟨⟨c', fr'⟩, hc'⟩ := Option.isSome_iff_exists.1 hle.2
        exact ⟨v, hv, c', fr', cap, b, hc', by simp [β', hk, h2], h3, h4, h5⟩
      · exact hle.elim
    | rd kk l =>
      simp only [AvLe] at hle
      split at hle
      · rename_i kk' l' ha
        obtain ⟨rfl, rfl⟩ := hle
        obtain ⟨v, hv, A, cap, h1, h2, h3, h4⟩ := get _ ha
        exact ⟨v, hv, A, cap, h1, h2, h3, fun hl => by
          obtain ⟨ad, h5, ⟨h6, h7⟩, h8⟩ := h4 hl
          exact ⟨ad, h5, ⟨h6, apart _ h7⟩, h8⟩⟩
      · rename_i ha
        subst hle
        obtain ⟨v, hv, hr⟩ := get _ ha
        exact ⟨v, hv, none, 0, hr, Nat.le_refl _, Nat.zero_le _, fun hl => absurd rfl hl⟩
      · rename_i k ha
        obtain ⟨hc, hk⟩ := hle
        split at hc
        · rename_i kk' l' fr hmk
          obtain ⟨rfl, rfl⟩ := hc
          obtain ⟨v, hv, c, fr', cap, h1, h2, h3, h4⟩ := get _ ha
          rw [hmk] at h1; cases h1
          rcases h4 with ⟨h5, h6, h7⟩ | ⟨b, h5, h6⟩
          · have hl0 : l' = [] := List.length_eq_zero_iff.1 h6
            subst hl0
            exact ⟨v, hv, none, 0, h7, Nat.le_refl _, Nat.zero_le _, fun hl => absurd rfl hl⟩
          · refine ⟨v, hv, some ⟨b, 0, none⟩, cap, h6, h3, h2.1, fun hl => ⟨_, rfl, ⟨?_, ?_⟩, ?_⟩⟩
            · rcases (h.mem k _ _ hmk).2 with ⟨h7, _⟩ | ⟨b', arr, T, rest, h7, h8, _⟩
              · rw [h5] at h7; cases h7
              · rw [h5] at h7; cases h7; exact h.fresh b h8
            · intro k' c hc he
              simp only [β'] at he
              obtain ⟨j, hj, hbj⟩ := Option.bind_eq_some_iff.1 he
              rcases memLe_lk hm k' c false hc with ⟨j', h7, h8⟩ | ⟨h7, _⟩
              · rw [hj] at h7; cases h7
                have := h.inj j k b (by rw [h8]; rfl) (by rw [hmk]; rfl) hbj h5
                subst this
                have : (ρ.map (·.2)).contains j = true := by
                  simp only [List.contains_eq_mem, decide_eq_true_eq]
                  exact List.mem_map.2 ⟨_, lk_mem hj, rfl⟩
                rw [this] at hk; cases hk
              · rw [hj] at h7; cases h7
            · intro i hi
              rcases (h.mem k _ _ hmk).2 with ⟨h7, _⟩ | ⟨b', arr, T, rest, h7, h8, h9, h10⟩
              · rw [h5] at h7; cases h7
              · rw [h5] at h7; cases h7
                rw [Addr.add_plain]
                exact h.cell hmk h5 (by simp [Ct.cells] at hi ⊢; simp [hi])
        · exact hc.elim
      · exact hle.elim
end Go.AM
