/- Part AmS9 of the proof: own text. -/
import Derived.Test.YtknejocjkjpfmaaAmS8
set_option linter.all false
namespace Go.AM
open Go.RowKit (Below)
variable {P : Program} {V : Nat → Prop} {β : Nat → Option Nat} {w0 w w' : World} {N : Nat} {e : Env} {m : Mem} {a : Act}
variable {ty : Ty} {Γ : Gam} {d : Option Tmp} {tt : TypeId} {pos : String} {after : Array Edge} {g : Option (Nat × Bool)}

theorem RepB.lt (h : RepB V β w0 N e m a w) {key b : Nat} (hs : (m key).isSome = true) (hb : β key = some b) : b < w.heap.size := by
  obtain ⟨⟨c, fr⟩, hc⟩ := Option.isSome_iff_exists.1 hs
  obtain ⟨_, h1 | ⟨b', arr, T, rest, h1, _, h3, _⟩⟩ := h.mem key c fr hc
  · rw [hb] at h1; exact absurd h1.1 (by simp)
  · rw [hb] at h1; cases h1; exact (Array.getElem?_eq_some_iff.1 h3).1

/-- The blocks behind the arguments are no unfrozen ones any more, once the arguments are frozen. -/
theorem args_apart (h : RepB V β w0 N e m a w) {args : List Operand} : ∀ {xs : List Operand} {ds : List DV}, dvs ⟨e, m⟩ xs = some ds → (∀ x ∈ xs, x ∈ args) → ∀ u ∈ xs.map a.eval, ∀ b, liveBlock u = some b →
    ∀ key c, m key = some (c, false) → lk (freezes ⟨e, m⟩ args) key = none → β key ≠ some b
  | [], _, _, _, u, hu, _, _, _, _, _, _ => by cases hu
  | x :: r, ds, hd, hsub, u, hu, b, hb, key, c, hk, hf => by
    simp only [dvs] at hd
    split at hd
    · rename_i dd ds' h1 h2
      rcases List.mem_cons.1 hu with rfl | hu
      · intro hβ
        have hrep := h.opd x
        have hx := hsub x (by simp)
        cases hop : opd ⟨e, m⟩ x with
        | v val =>
          rw [hop] at hrep h1
          have hv : a.eval x = val := hrep
          simp only [dvOf] at h1
          split at h1
          · rename_i hpl
            rw [hv] at hb
            unfold liveBlock at hb
            split at hb
            · simp [plainV] at hpl
            · cases hb
          · cases h1
        | rd k l =>
          rw [hop] at hrep
          obtain ⟨A, cap, hv, _, _, h4⟩ := hrep
          rw [hv] at hb
          have hl : l ≠ [] := by
            intro h0; subst h0
            unfold liveBlock at hb
            split at hb
            · rename_i hh; cases hh; simp at hb
            · cases hb
          obtain ⟨ad, rfl, hap, _⟩ := h4 hl
          have : ad.block = b := by
            simp only [liveBlock, if_pos (List.length_pos_iff.2 hl)] at hb
            simpa using hb
          exact hap.2 key c hk (this ▸ hβ)
        | ow key' =>
          rw [hop] at hrep
          obtain ⟨c', fr, cap, hk', _, _, h4⟩ := hrep
          obtain ⟨c'', hfz⟩ := freezes_has ⟨e, m⟩ args x key' c' fr hx (by rw [hop]; rfl) hk'
          rcases h4 with ⟨_, _, hv⟩ | ⟨b', hb', hv⟩
          · rw [hv] at hb; cases hb
          · rw [hv] at hb
            have : b' = b := by
              simp only [liveBlock] at hb
              split at hb
              · simpa using hb
              · cases hb
            subst this
            have := h.inj key key' b' (by simp [hk]) (by simp [hk']) hβ hb'
            subst this
            rw [hf] at hfz; cases hfz
        | al key' lo n =>
          rw [hop] at hrep
          obtain ⟨⟨c', fr, hk', _⟩, A, cap, hv, _, _, h4⟩ := hrep
          obtain ⟨c'', hfz⟩ := freezes_has ⟨e, m⟩ args x key' c' fr hx (by rw [hop]; rfl) hk'
          rw [hv] at hb
          have hn : 0 < n := by
            unfold liveBlock at hb
            split at hb
            · rename_i hh; cases hh
              split at hb
              · assumption
              · cases hb
            · cases hb
          rcases h4 (.inl hn) with ⟨_, _, h0, _⟩ | ⟨b', hb', rfl⟩
          · omega
          · have : b' = b := by simpa [liveBlock, hn] using hb
            subst this
            have := h.inj key key' b' (by simp [hk]) (by simp [hk']) hβ hb'
            subst this
            rw [hf] at hfz; cases hfz
        | pt x => rw [hop] at h1; cases h1
        | ref k o => rw [hop] at h1; cases h1
        | ows k n => rw [hop] at h1; cases h1
        | tup l => rw [hop] at h1; cases h1
        | dead => rw [hop] at h1; cases h1
      · exact args_apart h h2 (fun y hy => hsub y (by simp [hy])) u hu b hb key c hk hf
    · cases hd

theorem args_from (h : RepB V β w0 N e m a w) : ∀ {xs : List Operand} {ds : List DV}, dvs ⟨e, m⟩ xs = some ds → ∀ u ∈ xs.map a.eval, ∀ b, liveBlock u = some b → V b
  | [], _, _, u, hu, _, _ => by cases hu
  | x :: r, ds, hd, u, hu, b, hb => by
    simp only [dvs] at hd
    split at hd
    · rename_i dd ds' h1 h2
      rcases List.mem_cons.1 hu with rfl | hu
      · have hrep := h.opd x
        have own : ∀ key, (m key).isSome = true → ∀ b', β key = some b' → w0.heap.size ≤ b' := fun key hs b' hb' => by
          obtain ⟨⟨c, fr⟩, hc⟩ := Option.isSome_iff_exists.1 hs
          obtain ⟨_, h1 | ⟨b'', arr, T, rest, h1, h2, _⟩⟩ := h.mem key c fr hc
          · rw [hb'] at h1; exact absurd h1.1 (by simp)
          · rw [hb'] at h1; cases h1; exact h2
        cases hop : opd ⟨e, m⟩ x with
        | v val =>
          rw [hop] at hrep h1
          have hv : a.eval x = val := hrep
          simp only [dvOf] at h1
          split at h1
          · rename_i hpl
            rw [hv] at hb
            unfold liveBlock at hb
            split at hb
            · simp [plainV] at hpl
            · cases hb
          · cases h1
        | rd k l =>
          rw [hop] at hrep
          obtain ⟨A, cap, hv, _, _, h4⟩ := hrep
          rw [hv] at hb
          have hl : l ≠ [] := by
            intro h0; subst h0
            unfold liveBlock at hb
            split at hb
            · rename_i hh; cases hh; simp at hb
            · cases hb
          obtain ⟨ad, rfl, hap, _⟩ := h4 hl
          have : ad.block = b := by
            simp only [liveBlock, if_pos (List.length_pos_iff.2 hl)] at hb
            simpa using hb
          exact this ▸ hap.1
        | ow key' =>
          rw [hop] at hrep
          obtain ⟨c', fr, cap, hk', _, _, h4⟩ := hrep
          rcases h4 with ⟨_, _, hv⟩ | ⟨b', hb', hv⟩
          · rw [hv] at hb; cases hb
          · rw [hv] at hb
            have : b' = b := by
              simp only [liveBlock] at hb
              split at hb
              · simpa using hb
              · cases hb
            subst this
            exact h.fresh _ (own key' (by simp [hk']) b' hb')
        | al key' lo n =>
          rw [hop] at hrep
          obtain ⟨⟨c', fr, hk', _⟩, A, cap, hv, _, _, h4⟩ := hrep
          rw [hv] at hb
          have hn : 0 < n := by
            unfold liveBlock at hb
            split at hb
            · rename_i hh; cases hh
              split at hb
              · assumption
              · cases hb
            · cases hb
          rcases h4 (.inl hn) with ⟨_, _, h0, _⟩ | ⟨b', hb', rfl⟩
          · omega
          · have : b' = b := by simpa [liveBlock, hn] using hb
            subst this
            exact h.fresh _ (own key' (by simp [hk']) b' hb')
        | pt x => rw [hop] at h1; cases h1
        | ref k o => rw [hop] at h1; cases h1
        | ows k n => rw [hop] at h1; cases h1
        | tup l => rw [hop] at h1; cases h1
        | dead => rw [hop] at h1; cases h1
      · exact args_from h h2 u hu b hb
    · cases hd
theorem noFresh_adds (key : Nat) : ∀ (rs : List RV) (us : List Value) (i : Nat), rs.any RV.isFresh = false → addsOf key i rs us = []
  | [], us, i, _ => by cases us <;> simp [addsOf]
  | r :: rs, [], i, _ => by cases r <;> simp [addsOf]
  | r :: rs, u :: us, i, h => by
    simp only [List.any_cons, Bool.or_eq_false_iff] at h
    have ih := noFresh_adds key rs us (i + 1) h.2
    cases r <;> simp_all [addsOf, RV.isFresh]

theorem addsOf_tail (key : Nat) (r : RV) (rs : List RV) (u : Value) (us : List Value) (i : Nat) (p : Nat × Ct × Option Nat) (h : p ∈ addsOf key (i + 1) rs us) : p ∈ addsOf key i (r :: rs) (u :: us) := by
  cases r with
  | v x => exact h
  | fresh k l => exact List.mem_cons_of_mem _ h
  | view k l => exact h
  | cells n l => exact List.mem_cons_of_mem _ h
set_option maxHeartbeats 1000000 in
theorem bind_results {mem : List (Nat × Ct × Bool)} {args : List Operand} {ds : List DV} (h : RepB V β w0 N e (lk mem) a w) (hd : dvs ⟨e, lk mem⟩ args = some ds) (hx : Ext w w') {rs : List RV} {us : List Value} (hr : RepRs w w' (args.map a.eval) rs us)
    (hnd : (freshBs rs us).Nodup) (hvf : ¬ (rs.any RV.isView = true ∧ rs.any RV.isFresh = true)) {key dd : Nat} {fz : List (Nat × Ct × Bool)} (hfz : fz = if rs.any RV.isView then freezes ⟨e, lk mem⟩ args else []) (hfr : freshM (lk mem) dd (outMems key 0 rs ++ fz)) :
    ∃ β', RepB V β' w0 N e (lk ((outMems key 0 rs ++ fz) ++ mem)) a w' ∧ RepL V β' (lk ((outMems key 0 rs ++ fz) ++ mem)) w' (outAVs key 0 rs) us := by
  have hmems := addsOf_mems (w := w) (w' := w') key (args.map a.eval) rs us 0 hr
  have hok := addsOf_ok (w := w) (w' := w') key (args.map a.eval) rs us 0 hr
  have hkn := addsOf_nodup key rs us 0
  have hbl := addsOf_blocks key rs us 0
  have hfresh : ∀ k x, lk (addsOf key 0 rs us) k = some x → lk mem k = none := fun k x hl => by
    refine freshM_mem hfr k x.1 (List.mem_append_left _ ?_)
    rw [hmems]
    exact List.mem_map.2 ⟨(k, x), lk_mem hl, rfl⟩
  have h1 := h.adds hx (addsOf key 0 rs us) hfresh (fun k c bo hl => hok _ (lk_mem hl)) (fun k k' c c' b hl hl' => by
    have := filterMap_inj (f := fun p : Nat × Ct × Option Nat => p.2.2) (l := addsOf key 0 rs us) (by rw [hbl]; exact hnd) (lk_mem hl) (lk_mem hl') rfl rfl
    exact congrArg Prod.fst this)
  have hlkm : ∀ k, lk (outMems key 0 rs) k = (lk (addsOf key 0 rs us) k).map fun x => (x.1, false) := fun k => by
    rw [hmems]
    generalize addsOf key 0 rs us = l
    induction l with
    | nil => rfl
    | cons p l ih =>
      obtain ⟨j, c, bo⟩ := p
      simp only [List.map_cons, lk]
      split
      · rfl
      · exact ih
  have hfzs : ∀ k c fr, lk fz k = some (c, fr) → fr = true ∧ ∃ fr', lk mem k = some (c, fr') := fun k c fr hl => by
    rw [hfz] at hl
    split at hl
    · exact freezes_spec _ _ k c fr (lk_mem hl)
    · cases hl
  have hm2 : ∀ k, lk ((outMems key 0 rs ++ fz) ++ mem) k = addm (addsOf key 0 rs us) (lk mem) k ∨ ∃ c fr, addm (addsOf key 0 rs us) (lk mem) k = some (c, fr) ∧ lk ((outMems key 0 rs ++ fz) ++ mem) k = some (c, true) := fun k => by
    rw [lk_append, lk_append, hlkm k]
    unfold addm
    cases hl : lk (addsOf key 0 rs us) k with
    | some x => exact .inl rfl
    | none =>
      simp only [Option.map_none]
      cases hl2 : lk fz k with
      | none => exact .inl rfl
      | some y =>
        obtain ⟨c, fr⟩ := y
        obtain ⟨rfl, fr', h3⟩ := hfzs k c fr hl2
        exact .inr ⟨c, fr', h3, rfl⟩
  have h2 := h1.freeze hm2
  refine ⟨_, h2, ?_⟩
  -- the results
  have hres : ∀ (rs' : List RV) (us' : List Value) (i : Nat), RepRs w w' (args.map a.eval) rs' us' → (∀ p ∈ addsOf key i rs' us', p ∈ addsOf key 0 rs us) → (rs'.any RV.isView = true → rs.any RV.isView = true) →
      RepL V (addβ (addsOf key 0 rs us) β) (lk ((outMems key 0 rs ++ fz) ++ mem)) w' (outAVs key i rs') us' := by
    intro rs'
    induction rs' with
    | nil => intro us' i hr' _ _; cases us' <;> first | trivial | exact hr'.elim
    | cons r rs' ih =>
      intro us' i hr' hsub hv
      cases us' with
      | nil => exact hr'.elim
      | cons u us' =>
        refine ⟨?_, ih us' (i + 1) hr'.2 (fun p hp => hsub p (addsOf_tail key r rs' u us' i p hp)) (fun hh => hv (by rw [List.any_cons, hh, Bool.or_true]))⟩
        cases r with
        | v x => exact hr'.1
        | fresh k l =>
          have hin := hsub (key + i, .ints k l, ownB u) (List.mem_cons_self ..)
          have hl1 := lk_of_mem hkn hin
          have hl2 : lk ((outMems key 0 rs ++ fz) ++ mem) (key + i) = some (.ints k l, false) := by
            rw [lk_append, lk_append, hlkm, hl1]; rfl
          have hb : addβ (addsOf key 0 rs us) β (key + i) = ownB u := by simp [addβ, hl1]
          rcases hr'.1 with ⟨rfl, rfl⟩ | ⟨b, cap, arr, T, rest, rfl, hc1, hc2, _, hh, _⟩
          · exact ⟨.ints k [], false, 0, hl2, ⟨by simp, fun b hb' => Nat.zero_le _⟩, by simp [Ct.len], .inl ⟨hb, rfl, rfl⟩⟩
          · exact ⟨.ints k l, false, cap, hl2, ⟨hc2.1, fun b' hb' => by rw [hb] at hb'; cases hb'; unfold bsz; rw [hh]; simp only; omega⟩, hc1, .inr ⟨b, hb, rfl⟩⟩
        | cells n l =>
          have hin := hsub (key + i, .vals l, ownB u) (List.mem_cons_self ..)
          have hl1 := lk_of_mem hkn hin
          have hl2 : lk ((outMems key 0 rs ++ fz) ++ mem) (key + i) = some (.vals l, false) := by
            rw [lk_append, lk_append, hlkm, hl1]; rfl
          have hb : addβ (addsOf key 0 rs us) β (key + i) = ownB u := by simp [addβ, hl1]
          obtain ⟨b, cap, arr, T, rest, rfl, hc1, hc2, _⟩ := hr'.1
          exact ⟨.vals l, false, cap, b, hl2, hb, hc1, hc2, rfl⟩
        | view k l =>
          have hview := hv rfl
          have hnf : rs.any RV.isFresh = false := by
            cases hq : rs.any RV.isFresh with
            | false => rfl
            | true => exact absurd ⟨hview, hq⟩ hvf
          have hadds := noFresh_adds key rs us 0 hnf
          have hmnil : outMems key 0 rs = [] := by rw [hmems, hadds]; rfl
          obtain ⟨⟨A, cap, rfl, hc1, hc2, h4⟩, hal⟩ := hr'.1
          refine ⟨A, cap, rfl, hc1, hc2, fun hl => ?_⟩
          obtain ⟨ad, rfl, hc⟩ := h4 hl
          refine ⟨ad, rfl, ⟨?_, fun key' c hk' hβ => ?_⟩, hc⟩
          · rcases hal ad.block (by simp [liveBlock, List.length_pos_iff.2 hl]) with hge | ⟨u, hu, hub⟩
            · exact h.fresh _ (Nat.le_trans h.below.size hge)
            · exact args_from h hd u hu ad.block hub
          rw [hadds] at hβ
          rw [hmnil, List.nil_append, lk_append] at hk'
          have hβ' : β key' = some ad.block := hβ
          cases hl2 : lk fz key' with
          | some y =>
            obtain ⟨c', fr'⟩ := y
            rw [hl2] at hk'
            obtain ⟨rfl, _⟩ := hfzs key' c' fr' hl2
            cases hk'
          | none =>
            rw [hl2] at hk'
            have hk2 : lk mem key' = some (c, false) := hk'
            have hlt := h.lt (by simp [hk2]) hβ'
            rcases hal ad.block (by simp [liveBlock, List.length_pos_iff.2 hl]) with hge | ⟨u, hu, hub⟩
            · omega
            · rw [hfz, if_pos hview] at hl2
              exact args_apart h hd (fun x hx => hx) u hu ad.block hub key' c hk2 hl2 hβ'
  exact hres rs us 0 hr (fun p hp => hp) id
end Go.AM
