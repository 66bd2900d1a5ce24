/- Part AmS8 of the proof: own text. -/
import Derived.Test.YtknejocjkjpfmaaAmS7
set_option linter.all false
namespace Go.AM
open Go.RowKit (Below)
variable {P : Program} {V : Nat → Prop} {β : Nat → Option Nat} {w0 w w' : World} {N : Nat} {e : Env} {m : Mem} {a : Act}
variable {ty : Ty} {Γ : Gam} {d : Option Tmp} {tt : TypeId} {pos : String} {after : Array Edge} {g : Option (Nat × Bool)}

theorem lk_mem {α : Type} : ∀ {l : List (Nat × α)} {k : Nat} {x : α}, lk l k = some x → (k, x) ∈ l
  | [], _, _, h => by cases h
  | (j, y) :: r, k, x, h => by
    simp only [lk] at h
    split at h
    · rename_i hk; cases h; subst hk; simp
    · exact List.mem_cons_of_mem _ (lk_mem h)
theorem lk_of_mem {α : Type} : ∀ {l : List (Nat × α)} {k : Nat} {x : α}, (l.map (·.1)).Nodup → (k, x) ∈ l → lk l k = some x
  | (j, y) :: r, k, x, hn, h => by
    simp only [List.map_cons, List.nodup_cons] at hn
    simp only [lk]
    rcases List.mem_cons.1 h with h1 | h1
    · cases h1; simp
    · have : k ≠ j := fun hkj => hn.1 (hkj ▸ List.mem_map.2 ⟨(k, x), h1, rfl⟩)
      rw [if_neg this]
      exact lk_of_mem hn.2 h1
theorem lk_append {α : Type} : ∀ (l l' : List (Nat × α)) (k : Nat), lk (l ++ l') k = match lk l k with | some x => some x | none => lk l' k
  | [], _, _ => rfl
  | (j, y) :: r, l', k => by
    simp only [List.cons_append, lk]
    split
    · rfl
    · exact lk_append r l' k
def addsOf (key : Nat) : Nat → List RV → List Value → List (Nat × Ct × Option Nat)
  | i, .fresh k l :: rs, u :: us => (key + i, .ints k l, ownB u) :: addsOf key (i + 1) rs us
  | i, .cells n l :: rs, u :: us => (key + i, .vals l, ownB u) :: addsOf key (i + 1) rs us
  | i, _ :: rs, _ :: us => addsOf key (i + 1) rs us
  | _, _, _ => []
theorem addsOf_ge (key : Nat) : ∀ (rs : List RV) (us : List Value) (i : Nat), ∀ p ∈ addsOf key i rs us, key + i ≤ p.1
  | [], us, i, p, h => by cases us <;> simp [addsOf] at h
  | r :: rs, [], i, p, h => by cases r <;> simp [addsOf] at h
  | r :: rs, u :: us, i, p, h => by
    have ih := addsOf_ge key rs us (i + 1) p
    cases r <;> simp only [addsOf, List.mem_cons] at h
    · have := ih h; omega
    · rcases h with rfl | h
      · exact Nat.le_refl _
      · have := ih h; omega
    · have := ih h; omega
    · rcases h with rfl | h
      · exact Nat.le_refl _
      · have := ih h; omega
theorem addsOf_nodup (key : Nat) : ∀ (rs : List RV) (us : List Value) (i : Nat), ((addsOf key i rs us).map (·.1)).Nodup
  | [], us, i => by cases us <;> simp [addsOf]
  | r :: rs, [], i => by cases r <;> simp [addsOf]
  | r :: rs, u :: us, i => by
    have ih := addsOf_nodup key rs us (i + 1)
    cases r <;> simp only [addsOf]
    · exact ih
    · simp only [List.map_cons, List.nodup_cons]
      refine ⟨fun hm => ?_, ih⟩
      obtain ⟨p, hp, he⟩ := List.mem_map.1 hm
      have := addsOf_ge key rs us (i + 1) p hp
      omega
    · exact ih
    · simp only [List.map_cons, List.nodup_cons]
      refine ⟨fun hm => ?_, ih⟩
      obtain ⟨p, hp, he⟩ := List.mem_map.1 hm
      have := addsOf_ge key rs us (i + 1) p hp
      omega
theorem addsOf_mems (key : Nat) (vs : List Value) : ∀ (rs : List RV) (us : List Value) (i : Nat), RepRs w w' vs rs us → outMems key i rs = (addsOf key i rs us).map fun p => (p.1, p.2.1, false)
  | [], us, i, _ => by cases us <;> simp [addsOf, outMems]
  | r :: rs, [], i, h => h.elim
  | r :: rs, u :: us, i, h => by
    have ih := addsOf_mems key vs rs us (i + 1) h.2
    cases r <;> simp [addsOf, outMems, outMem, ih]
theorem addsOf_ok (key : Nat) (vs : List Value) : ∀ (rs : List RV) (us : List Value) (i : Nat), RepRs w w' vs rs us → ∀ p ∈ addsOf key i rs us, okCells p.2.1.cells = true ∧ ((p.2.2 = none ∧ p.2.1.len = 0) ∨
    ∃ b arr T rest, p.2.2 = some b ∧ w.heap.size ≤ b ∧ w'.heap[b]? = some (.cells arr T (0, 0)) ∧ arr.toList = p.2.1.cells ++ rest)
  | [], us, i, _, p, h => by cases us <;> simp [addsOf] at h
  | r :: rs, [], i, h, _, _ => h.elim
  | r :: rs, u :: us, i, h, p, hp => by
    have ih := addsOf_ok key vs rs us (i + 1) h.2 p
    cases r <;> simp only [addsOf, List.mem_cons] at hp
    · exact ih hp
    · rename_i k l
      rcases hp with rfl | hp
      · refine ⟨okCells_ints k l, ?_⟩
        rcases h.1 with ⟨rfl, rfl⟩ | ⟨b, cap, arr, T, rest, rfl, _, _, h1, h2, h3⟩
        · exact .inl ⟨rfl, rfl⟩
        · exact .inr ⟨b, arr, T, rest, rfl, h1, h2, h3⟩
      · exact ih hp
    · exact ih hp
    · rename_i n l
      rcases hp with rfl | hp
      · obtain ⟨b, cap, arr, T, rest, rfl, _, _, h1, h2, h3, h4⟩ := h.1
        exact ⟨h4, .inr ⟨b, arr, T, rest, rfl, h1, h2, h3⟩⟩
      · exact ih hp
theorem addsOf_blocks (key : Nat) : ∀ (rs : List RV) (us : List Value) (i : Nat), (addsOf key i rs us).filterMap (·.2.2) = freshBs rs us
  | [], us, i => by cases us <;> simp [addsOf, freshBs]
  | r :: rs, [], i => by cases r <;> simp [addsOf, freshBs]
  | r :: rs, u :: us, i => by
    have ih := addsOf_blocks key rs us (i + 1)
    cases r <;> simp only [addsOf, freshBs]
    · exact ih
    · cases hu : ownB u <;> simp [List.filterMap_cons, hu, ih]
    · exact ih
    · cases hu : ownB u <;> simp [List.filterMap_cons, hu, ih]
theorem filterMap_inj {α : Type} {f : α → Option Nat} : ∀ {l : List α}, (l.filterMap f).Nodup → ∀ {x y : α} {b : Nat}, x ∈ l → y ∈ l → f x = some b → f y = some b → x = y
  | z :: r, hn, x, y, b, hx, hy, fx, fy => by
    have hr : ∀ u, u ∈ r → f u = some b → b ∈ r.filterMap f := fun u hu fu => List.mem_filterMap.2 ⟨u, hu, fu⟩
    rw [List.filterMap_cons] at hn
    rcases List.mem_cons.1 hx with e1 | hx1
    · rcases List.mem_cons.1 hy with e2 | hy1
      · rw [e1, e2]
      · rw [← e1, fx] at hn
        exact absurd (hr y hy1 fy) (List.nodup_cons.1 hn).1
    · rcases List.mem_cons.1 hy with e2 | hy1
      · rw [← e2, fy] at hn
        exact absurd (hr x hx1 fx) (List.nodup_cons.1 hn).1
      · refine filterMap_inj (l := r) ?_ hx1 hy1 fx fy
        cases hz : f z with
        | none => rw [hz] at hn; exact hn
        | some c => rw [hz] at hn; exact (List.nodup_cons.1 hn).2
theorem freshM_mem {m : Mem} {d : Nat} : ∀ {l : List (Nat × Ct × Bool)}, freshM m d l → ∀ k c, (k, c, false) ∈ l → m k = none
  | (j, c', fr) :: r, h, k, c, hm => by
    simp only [freshM] at h
    rcases List.mem_cons.1 hm with h1 | h1
    · cases h1
      rcases h.1 with h2 | h2
      · cases h2
      · exact h2.2.2
    · exact freshM_mem h.2 k c h1
theorem freezes_spec (s : St) : ∀ (xs : List Operand) (k : Nat) (c : Ct) (fr : Bool), (k, c, fr) ∈ freezes s xs → fr = true ∧ ∃ fr', s.m k = some (c, fr')
  | [], k, c, fr, h => by cases h
  | x :: r, k, c, fr, h => by
    simp only [freezes] at h
    split at h
    · rename_i en hen
      rcases List.mem_cons.1 h with h1 | h1
      · cases h1
        cases hk : keyOf (opd s x) with
        | none => simp [hk] at hen
        | some k' =>
          simp only [hk, Option.bind_some] at hen
          obtain ⟨⟨c', fr'⟩, h2, h3⟩ := Option.map_eq_some_iff.1 hen
          simp only [Prod.mk.injEq] at h3
          obtain ⟨rfl, rfl, rfl⟩ := h3
          exact ⟨rfl, fr', h2⟩
      · exact freezes_spec s r k c fr h1
    · exact freezes_spec s r k c fr h
theorem freezes_has (s : St) : ∀ (xs : List Operand) (x : Operand) (k : Nat) (c : Ct) (fr : Bool), x ∈ xs → keyOf (opd s x) = some k → s.m k = some (c, fr) → ∃ c', lk (freezes s xs) k = some (c', true)
  | y :: r, x, k, c, fr, hx, hk, hc => by
    simp only [freezes]
    have key : (k, c, true) ∈ freezes s (y :: r) → ∃ c', lk (freezes s (y :: r)) k = some (c', true) := fun hm => by
      cases hl : lk (freezes s (y :: r)) k with
      | none =>
        exfalso
        have : ∀ (l : List (Nat × Ct × Bool)), (k, c, true) ∈ l → lk l k ≠ none := fun l => by
          induction l with
          | nil => intro h; cases h
          | cons z l ih =>
            obtain ⟨j, y⟩ := z
            intro h
            simp only [lk]
            split
            · simp
            · rename_i hne
              rcases List.mem_cons.1 h with h1 | h1
              · cases h1; exact absurd rfl hne
              · exact ih h1
        exact this _ hm hl
      | some p =>
        obtain ⟨c', fr'⟩ := p
        have := (freezes_spec s _ k c' fr' (lk_mem hl)).1
        subst this
        exact ⟨c', rfl⟩
    refine key ?_
    have mem : ∀ (xs : List Operand), x ∈ xs → (k, c, true) ∈ freezes s xs := fun xs => by
      induction xs with
      | nil => intro h; cases h
      | cons z xs ih =>
        intro h
        simp only [freezes]
        rcases List.mem_cons.1 h with rfl | h1
        · simp [hk, hc]
        · split
          · exact List.mem_cons_of_mem _ (ih h1)
          · exact ih h1
    exact mem _ hx
end Go.AM
