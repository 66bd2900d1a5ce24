/- Part AmSp of the proof: own text. -/
import Derived.Test.YtknejocjkjpfmaaAmS10
import Derived.Laws.AppendOwn
import Derived.Laws.CopyOwn
set_option linter.all false
namespace Go.AM
open Go.RowKit (Below)
variable {P : Program} {V : Nat → Prop} {β : Nat → Option Nat} {w0 w w' : World} {N : Nat} {e : Env} {m : Mem} {a : Act}
variable {ty : Ty} {Γ : Gam} {d : Option Tmp} {tt : TypeId} {pos : String} {after : Array Edge} {g : Option (Nat × Bool)}
/-- Does a slot name the key? -/
def names (key : Nat) : AV → Bool
  | .ref k _ => k == key
  | .ow k => k == key
  | .al k _ _ => k == key
  | .ows k _ => k == key
  | _ => false
def namesT (key : Nat) : AV → Bool
  | .tup l => l.any (names key)
  | a => names key a
def killE (key : Nat) (env : List (Nat × AV)) : List (Nat × AV) := env.map fun p => (p.1, if namesT key p.2 then .dead else p.2)
theorem lk_killE {key : Nat} : ∀ (env : List (Nat × AV)) (t : Nat), lk (killE key env) t = (lk env t).map fun a => if namesT key a then .dead else a
  | [], _ => rfl
  | (j, x) :: r, t => by
    simp only [killE, List.map_cons, lk]
    split
    · rfl
    · exact lk_killE r t
theorem World.cell_of_heap {w w' : World} {ad : Addr} {v : Value} (h : w'.heap[ad.block]? = w.heap[ad.block]?) (hc : w.cell? ad = some v) : w'.cell? ad = some v := (World.cell?_of_block h).trans hc
theorem RepS.other {β' : Nat → Option Nat} {m' : Mem} {key : Nat} {av : AV} {v : Value} (hr : RepS V β m w av v) (hn : names key av = false) (hβ : ∀ k, k ≠ key → β' k = β k) (hm : ∀ k, k ≠ key → m' k = m k)
    (hheap : ∀ b, Apart β m b → b < w.heap.size → w'.heap[b]? = w.heap[b]?) (hap : ∀ b, b < w.heap.size → Apart β m b → Apart β' m' b) (hz : ∀ k b, k ≠ key → (m k).isSome = true → β k = some b → bsz w b ≤ bsz w' b) : RepS V β' m' w' av v := by
  cases av with
  | v x => exact hr
  | pt x =>
    obtain ⟨ad, h1, h2, h3⟩ := hr
    have hlt := World.block_lt_of_cell? w ad h2
    exact ⟨ad, h1, World.cell_of_heap (hheap _ h3 hlt) h2, hap _ hlt h3⟩
  | rd k l =>
    obtain ⟨A, cap, h1, h2, h3, h4⟩ := hr
    refine ⟨A, cap, h1, h2, h3, fun hl => ?_⟩
    obtain ⟨ad, e, hp, hc⟩ := h4 hl
    have hadd : ∀ i, (ad.add i).block = ad.block := fun i => by unfold Addr.add; split <;> rfl
    have h0 := World.block_lt_of_cell? w _ (hc 0 (List.length_pos_iff.2 hl))
    rw [hadd] at h0
    exact ⟨ad, e, ⟨hp.1, hap _ h0 hp.2⟩, fun i hi => World.cell_of_heap (by rw [hadd]; exact hheap _ hp.2 h0) (hc i hi)⟩
  | ref k off =>
    have hk : k ≠ key := by simpa [names] using hn
    obtain ⟨h0, b, h1, h2⟩ := hr
    exact ⟨by rw [hm k hk]; exact h0, b, by rw [hβ k hk]; exact h1, h2⟩
  | ow k =>
    have hk : k ≠ key := by simpa [names] using hn
    obtain ⟨c, fr, cap, h1, h2, h3, h4⟩ := hr
    exact ⟨c, fr, cap, by rw [hm k hk]; exact h1, h2.mono (hβ k hk) (fun b hb => hz k b hk (by rw [h1]; rfl) hb), h3, by rw [hβ k hk]; exact h4⟩
  | al k lo n =>
    have hk : k ≠ key := by simpa [names] using hn
    obtain ⟨⟨c, fr, h1, h2⟩, A, cap, h3, h4, h5, h6⟩ := hr
    exact ⟨⟨c, fr, by rw [hm k hk]; exact h1, h2⟩, A, cap, h3, h4, h5.mono (hβ k hk) (fun b hb => hz k b hk (by rw [h1]; rfl) hb), by rw [hβ k hk]; exact h6⟩
  | ows k n =>
    have hk : k ≠ key := by simpa [names] using hn
    obtain ⟨c, fr, cap, b, h1, h2, h3⟩ := hr
    exact ⟨c, fr, cap, b, by rw [hm k hk]; exact h1, by rw [hβ k hk]; exact h2, h3⟩
  | tup l => exact hr
  | dead => trivial
theorem RepL.other {β' : Nat → Option Nat} {m' : Mem} {key : Nat} (hβ : ∀ k, k ≠ key → β' k = β k) (hm : ∀ k, k ≠ key → m' k = m k)
    (hheap : ∀ b, Apart β m b → b < w.heap.size → w'.heap[b]? = w.heap[b]?) (hap : ∀ b, b < w.heap.size → Apart β m b → Apart β' m' b) (hz : ∀ k b, k ≠ key → (m k).isSome = true → β k = some b → bsz w b ≤ bsz w' b) :
    ∀ {l : List AV} {vs : List Value}, RepL V β m w l vs → l.any (names key) = false → RepL V β' m' w' l vs
  | [], [], _, _ => trivial
  | x :: l, v :: vs, ⟨h1, h2⟩, hn => by
    simp only [List.any_cons, Bool.or_eq_false_iff] at hn
    exact ⟨h1.other hn.1 hβ hm hheap hap hz, RepL.other hβ hm hheap hap hz h2 hn.2⟩
  | [], _ :: _, h, _ => h
  | _ :: _, [], h, _ => h
theorem RepA.other {β' : Nat → Option Nat} {m' : Mem} {key : Nat} {av : AV} {v : Value} (hr : RepA V β m w av v) (hn : namesT key av = false) (hβ : ∀ k, k ≠ key → β' k = β k) (hm : ∀ k, k ≠ key → m' k = m k)
    (hheap : ∀ b, Apart β m b → b < w.heap.size → w'.heap[b]? = w.heap[b]?) (hap : ∀ b, b < w.heap.size → Apart β m b → Apart β' m' b) (hz : ∀ k b, k ≠ key → (m k).isSome = true → β k = some b → bsz w b ≤ bsz w' b) : RepA V β' m' w' av v := by
  cases av with
  | tup l =>
    obtain ⟨vs, h1, h2⟩ := hr
    exact ⟨vs, h1, RepL.other hβ hm hheap hap hz h2 hn⟩
  | v x => exact RepS.other (V := V) (av := .v x) hr rfl hβ hm hheap hap hz
  | pt x => exact RepS.other (V := V) (av := .pt x) hr rfl hβ hm hheap hap hz
  | rd k l => exact RepS.other (V := V) (av := .rd k l) hr rfl hβ hm hheap hap hz
  | ref k off => exact RepS.other (V := V) (av := .ref k off) hr hn hβ hm hheap hap hz
  | ow k => exact RepS.other (V := V) (av := .ow k) hr hn hβ hm hheap hap hz
  | al k lo n => exact RepS.other (V := V) (av := .al k lo n) hr hn hβ hm hheap hap hz
  | ows k n => exact RepS.other (V := V) (av := .ows k n) hr hn hβ hm hheap hap hz
  | dead => trivial
/-- A block takes another's place, or its row is written anew: whoever named the key is forgotten. -/
theorem RepB.regrow {env : List (Nat × AV)} (h : RepB V β w0 N (lk env) m a w) {key nb : Nat} {c' : Ct} {arr : Array Value} {T : TypeId} {rest : List Value} (hbelow : Below w0.heap.size w0 w') (hsize : w.heap.size ≤ w'.heap.size)
    (hother : ∀ j, j < w.heap.size → j ≠ nb → w'.heap[j]? = w.heap[j]?) (hnb : w'.heap[nb]? = some (.cells arr T (0, 0))) (harr : arr.toList = c'.cells ++ rest) (hok : okCells c'.cells = true) (hB : w0.heap.size ≤ nb)
    (hown : w.heap.size ≤ nb ∨ (β key = some nb ∧ ∃ c0, m key = some (c0, false))) :
    RepB V (fun k => if k = key then some nb else β k) w0 N (lk (killE key env)) (fun k => if k = key then some (c', false) else m k) a w' := by
  have hne : ∀ k b, k ≠ key → (m k).isSome = true → β k = some b → b ≠ nb := fun k b hk hs hb hbn => by
    subst hbn
    rcases hown with hge | ⟨h1, c0, h2⟩
    · have := h.lt hs hb; omega
    · exact hk (h.inj k key b hs (by rw [h2]; rfl) hb h1)
  have hapne : ∀ b, Apart β m b → b < w.heap.size → b ≠ nb := fun b hap hlt hbn => by
    subst hbn
    rcases hown with hge | ⟨h1, c0, h2⟩
    · omega
    · exact hap key c0 h2 h1
  refine ⟨h.fresh, hbelow, h.size, h.defers, ?_, ?_, ?_⟩
  · intro k c fr hk
    by_cases hkk : k = key
    · subst hkk
      simp only [if_true, Option.some.injEq, Prod.mk.injEq] at hk ⊢
      obtain ⟨rfl, rfl⟩ := hk
      exact ⟨hok, .inr ⟨nb, arr, T, rest, rfl, hB, hnb, harr⟩⟩
    · simp only [if_neg hkk] at hk ⊢
      obtain ⟨ho, h1 | ⟨b1, arr1, T1, rest1, h1, h2, h3, h4⟩⟩ := h.mem k c fr hk
      · exact ⟨ho, .inl h1⟩
      · have hlt := h.lt (by rw [hk]; rfl) h1
        exact ⟨ho, .inr ⟨b1, arr1, T1, rest1, h1, h2, by rw [hother b1 hlt (hne k b1 hkk (by rw [hk]; rfl) h1)]; exact h3, h4⟩⟩
  · intro k k' b h1 h2 e1 e2
    simp only at h1 h2 e1 e2
    by_cases hk : k = key <;> by_cases hk' : k' = key
    · rw [hk, hk']
    · rw [if_pos hk] at e1; rw [if_neg hk'] at e2 h2
      cases e1
      exact absurd rfl (hne k' nb hk' h2 e2)
    · rw [if_neg hk] at e1 h1; rw [if_pos hk'] at e2
      cases e2
      exact absurd rfl (hne k nb hk h1 e1)
    · rw [if_neg hk] at e1 h1; rw [if_neg hk'] at e2 h2
      exact h.inj k k' b h1 h2 e1 e2
  · intro t av ht
    rw [lk_killE] at ht
    obtain ⟨av0, h1, rfl⟩ := Option.map_eq_some_iff.1 ht
    obtain ⟨v, hv, hr⟩ := h.slots t av0 h1
    refine ⟨v, hv, ?_⟩
    cases hn : namesT key av0 with
    | true => rw [if_pos rfl]; trivial
    | false =>
      rw [if_neg (by simp)]
      refine hr.other hn (fun k hk => if_neg hk) (fun k hk => if_neg hk) (fun b hap hlt => hother b hlt (hapne b hap hlt)) (fun b hlt hap k c hk he => ?_) (fun k b hk hs hb => ?_)
      · by_cases hkk : k = key
        · simp only [if_pos hkk] at he
          cases he
          exact hapne _ hap hlt rfl
        · simp only [if_neg hkk] at hk he
          exact hap k c hk he
      · have hlt := h.lt hs hb
        unfold AM.bsz
        rw [hother b hlt (hne k b hk hs hb)]
        exact Nat.le_refl _
end Go.AM
