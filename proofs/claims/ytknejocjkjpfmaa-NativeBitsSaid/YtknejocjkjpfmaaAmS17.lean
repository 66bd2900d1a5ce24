/- Part AmS17 of the proof: own text. -/
import Derived.Test.YtknejocjkjpfmaaAmS16
set_option linter.all false
namespace Go.AM
variable {P : Program} {V : Nat → Prop} {w0 : World} {N : Nat}
variable {ty : Ty} {Γ : Gam}

theorem edged_on {o : Oper} {j : Nat} (h : edged o j = true) : ∃ e ∈ o.after, Region.binds .any e = true ∧ e.on = j := by
  unfold edged at h
  obtain ⟨e, he, hb⟩ := Array.any_eq_true'.1 h
  simp only [Bool.and_eq_true, beq_iff_eq] at hb
  exact ⟨e, he, hb⟩
theorem drawOk_spec {ops : List Oper} (h : drawOk ops = true) {i : Nat} {o : Oper} (ho : ops[i]? = some o) :
    (∀ e ∈ o.after, Region.binds .any e = true → e.on < i) ∧ (o.dst.isSome = true ∨ isSt o = true) ∧ (∀ j, j < i → meddle ops i j = true → edged o j = true) ∧
    (isAs o = true ∨ o.dst = none ∨ ∀ j, j < ops.length → j ≠ i → slotD ops j ≠ o.dst) := by
  unfold drawOk at h
  rw [List.all_eq_true] at h
  have hi : i < ops.length := (List.getElem?_eq_some_iff.1 ho).1
  have h1 := h i (by simpa using hi)
  rw [ho] at h1
  simp only [drawOp, Bool.and_eq_true] at h1
  obtain ⟨⟨⟨h1, h2⟩, h3⟩, h4⟩ := h1
  refine ⟨fun e he hb => ?_, by simpa using h2, fun j hj hm => ?_, ?_⟩
  · have := Array.all_eq_true_iff_forall_mem.1 h1 e he
    simpa [hb] using this
  · rw [List.all_eq_true] at h3
    have := h3 j (by simpa using hj)
    simpa [hm] using this
  · rw [Bool.or_eq_true, Bool.or_eq_true] at h4
    rcases h4 with (h4 | h4) | h4
    · exact .inl h4
    · exact .inr (.inl (by simpa using h4))
    · refine .inr (.inr fun j hj hne => ?_)
      rw [List.all_eq_true] at h4
      have := h4 j (by simpa using hj)
      simpa [hne] using this
theorem wpAny_mono_fuel {ops : Array Oper} {Q : Exit → Act → World → Prop} {md : Region.Mode} {fuel : Nat} {listed : Array Bool} {a : Act} {w : World} (hne : Region.ready md ops listed ≠ [])
    (h : ∀ i ∈ Region.ready md ops listed, wpOp P ops Q i (wpAny P md ops Q fuel (listed.setIfInBounds i true)) a w) : wpAny P md ops Q (fuel + 1) listed a w := ⟨fun h0 => absurd h0 hne, h⟩
theorem getD_set {listed : Array Bool} {i j : Nat} (d : Bool) (hi : i < listed.size) : (listed.setIfInBounds i true).getD j d = if j = i then true else listed.getD j d := by
  by_cases h : i = j
  · subst h; simp [hi]
  · rw [getD_set_ne d h, if_neg (fun e => h e.symm)]
theorem count_set {p p' : Nat → Bool} {k : Nat} (hk : p k = true) (h : ∀ i, p' i = (p i && decide (i ≠ k))) : ∀ n, k < n → ((List.range n).countP p') + 1 = (List.range n).countP p := by
  have low : ∀ n, n ≤ k → (List.range n).countP p' = (List.range n).countP p := fun n hn => by
    apply List.countP_congr
    intro i hi
    have : i ≠ k := by have := List.mem_range.1 hi; omega
    simp [h, this]
  intro n
  induction n with
  | zero => intro h; omega
  | succ n ih =>
    intro hn
    rw [List.range_succ, List.countP_append, List.countP_append]
    by_cases hkn : k = n
    · subst hkn
      rw [low k (Nat.le_refl _)]
      simp [h, hk]
    · have := ih (by omega)
      have hpn : p' n = p n := by simp [h, show n ≠ k by omega]
      simp only [List.countP_singleton, hpn]
      omega
end Go.AM
