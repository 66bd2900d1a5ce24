/- Part 1 of the proof: own text. -/
import Derived.Laws.AppendOwn
import Derived.Laws.CopyOwn
import Derived.Deep.LoopGhost
import Derived.Test.YthdbkmpkebdliaaGreatDoorK0
set_option linter.all false
set_option maxHeartbeats 20000000
namespace Go.AM
variable [Lay]
open Go.RowKit (Below)
variable {P : Program} {V : Nat → Prop} {β : Nat → Option Nat} {w0 w w' : World} {N : Nat} {e : Env} {m : Mem} {a : Act}
variable {ty : Ty} {Γ : Gam} {d : Option Tmp} {tt : TypeId} {pos : String} {after : Array Edge} {g : Option (Nat × Bool)}

theorem RepB.lt (h : RepB V β w0 N e m a w) {key b : Nat} (hs : (m key).isSome = true) (hb : β key = some b) : b < w.heap.size := by
  obtain ⟨⟨c, fr⟩, hc⟩ := Option.isSome_iff_exists.1 hs
  obtain ⟨_, h1 | ⟨b', arr, T, rest, h1, _, h3, _⟩⟩ := h.mem key c fr hc
  · rw [hb] at h1; exact absurd h1.1 (by simp)
  · rw [hb] at h1; cases h1; exact (Array.getElem?_eq_some_iff.1 h3).1

theorem args_apart (h : RepB V β w0 N e m a w) {args : List Operand} : ∀ {xs : List Operand} {ds : List DV}, dvs ⟨e, m⟩ xs = some ds → (∀ x ∈ xs, x ∈ args) → ∀ u ∈ xs.map a.eval, ∀ b, Lb u = some b →
    ∀ key c, m key = some (c, false) → lk (freezes ⟨e, m⟩ args) key = none → β key ≠ some b
  | [], _, _, _, u, hu, _, _, _, _, _, _ => by cases hu
  | x :: r, ds, hd, hsub, u, hu, b, hb, key, c, hk, hf => by
    simp only [dvs] at hd
    split at hd
    · rename_i dd ds' h1 h2
      rcases List.mem_cons.1 hu with rfl | hu
      · intro hβ
        have hrep := h.opd x
        have hx := hsub x (by simp)
        cases hop : opd ⟨e, m⟩ x with
        | v val =>
          rw [hop] at hrep h1
          have hv : a.eval x = val := hrep
          simp only [dvOf] at h1
          split at h1
          · rename_i hpl
            rw [hv] at hb
            unfold Lb at hb
            split at hb
            · simp [plainV] at hpl
            · cases hb
          · cases h1
        | rd k l =>
          rw [hop] at hrep
          obtain ⟨A, cap, hv, _, _, h4⟩ := hrep
          rw [hv] at hb
          have hl : l ≠ [] := by
            intro h0; subst h0
            unfold Lb at hb
            split at hb
            · rename_i hh; cases hh; simp at hb
            · cases hb
          obtain ⟨ad, rfl, hap, _⟩ := h4 hl
          have : ad.block = b := by
            simp only [Lb, if_pos (List.length_pos_iff.2 hl)] at hb
            simpa using hb
          exact hap.2 key c hk (this ▸ hβ)
        | ow key' =>
          rw [hop] at hrep
          obtain ⟨c', fr, cap, hk', _, _, h4⟩ := hrep
          obtain ⟨c'', hfz⟩ := freezes_has ⟨e, m⟩ args x key' c' fr hx (by rw [hop]; rfl) hk'
          rcases h4 with ⟨_, _, hv⟩ | ⟨b', hb', hv⟩
          · rw [hv] at hb; cases hb
          · rw [hv] at hb
            have : b' = b := by
              simp only [Lb] at hb
              split at hb
              · simpa using hb
              · cases hb
            subst this
            have := h.inj key key' b' (by simp [hk]) (by simp [hk']) hβ hb'
            subst this
            rw [hf] at hfz; cases hfz
        | al key' lo n =>
          rw [hop] at hrep
          obtain ⟨⟨c', fr, hk', _⟩, A, cap, hv, _, _, h4⟩ := hrep
          obtain ⟨c'', hfz⟩ := freezes_has ⟨e, m⟩ args x key' c' fr hx (by rw [hop]; rfl) hk'
          rw [hv] at hb
          have hn : 0 < n := by
            unfold Lb at hb
            split at hb
            · rename_i hh; cases hh
              split at hb
              · assumption
              · cases hb
            · cases hb
          rcases h4 (.inl hn) with ⟨_, _, h0, _⟩ | ⟨b', hb', rfl⟩
          · omega
          · have : b' = b := by simpa [Lb, hn] using hb
            subst this
            have := h.inj key key' b' (by simp [hk]) (by simp [hk']) hβ hb'
            subst this
            rw [hf] at hfz; cases hfz
        | pt x => rw [hop] at h1; cases h1
        | ref k o => rw [hop] at h1; cases h1
        | ows k n => rw [hop] at h1; cases h1
        | tup l => rw [hop] at h1; cases h1
        | dead => rw [hop] at h1; cases h1
      · exact args_apart h h2 (fun y hy => hsub y (by simp [hy])) u hu b hb key c hk hf
    · cases hd

theorem args_from (h : RepB V β w0 N e m a w) : ∀ {xs : List Operand} {ds : List DV}, dvs ⟨e, m⟩ xs = some ds → ∀ u ∈ xs.map a.eval, ∀ b, Lb u = some b → V b
  | [], _, _, u, hu, _, _ => by cases hu
  | x :: r, ds, hd, u, hu, b, hb => by
    simp only [dvs] at hd
    split at hd
    · rename_i dd ds' h1 h2
      rcases List.mem_cons.1 hu with rfl | hu
      · have hrep := h.opd x
        have own : ∀ key, (m key).isSome = true → ∀ b', β key = some b' → w0.heap.size ≤ b' := fun key hs b' hb' => by
          obtain ⟨⟨c, fr⟩, hc⟩ := Option.isSome_iff_exists.1 hs
          obtain ⟨_, h1 | ⟨b'', arr, T, rest, h1, h2, _⟩⟩ := h.mem key c fr hc
          · rw [hb'] at h1; exact absurd h1.1 (by simp)
          · rw [hb'] at h1; cases h1; exact h2
        cases hop : opd ⟨e, m⟩ x with
        | v val =>
          rw [hop] at hrep h1
          have hv : a.eval x = val := hrep
          simp only [dvOf] at h1
          split at h1
          · rename_i hpl
            rw [hv] at hb
            unfold Lb at hb
            split at hb
            · simp [plainV] at hpl
            · cases hb
          · cases h1
        | rd k l =>
          rw [hop] at hrep
          obtain ⟨A, cap, hv, _, _, h4⟩ := hrep
          rw [hv] at hb
          have hl : l ≠ [] := by
            intro h0; subst h0
            unfold Lb at hb
            split at hb
            · rename_i hh; cases hh; simp at hb
            · cases hb
          obtain ⟨ad, rfl, hap, _⟩ := h4 hl
          have : ad.block = b := by
            simp only [Lb, if_pos (List.length_pos_iff.2 hl)] at hb
            simpa using hb
          exact this ▸ hap.1
        | ow key' =>
          rw [hop] at hrep
          obtain ⟨c', fr, cap, hk', _, _, h4⟩ := hrep
          rcases h4 with ⟨_, _, hv⟩ | ⟨b', hb', hv⟩
          · rw [hv] at hb; cases hb
          · rw [hv] at hb
            have : b' = b := by
              simp only [Lb] at hb
              split at hb
              · simpa using hb
              · cases hb
            subst this
            exact h.fresh.1 _ (own key' (by simp [hk']) b' hb')
        | al key' lo n =>
          rw [hop] at hrep
          obtain ⟨⟨c', fr, hk', _⟩, A, cap, hv, _, _, h4⟩ := hrep
          rw [hv] at hb
          have hn : 0 < n := by
            unfold Lb at hb
            split at hb
            · rename_i hh; cases hh
              split at hb
              · assumption
              · cases hb
            · cases hb
          rcases h4 (.inl hn) with ⟨_, _, h0, _⟩ | ⟨b', hb', rfl⟩
          · omega
          · have : b' = b := by simpa [Lb, hn] using hb
            subst this
            exact h.fresh.1 _ (own key' (by simp [hk']) b' hb')
        | pt x => rw [hop] at h1; cases h1
        | ref k o => rw [hop] at h1; cases h1
        | ows k n => rw [hop] at h1; cases h1
        | tup l => rw [hop] at h1; cases h1
        | dead => rw [hop] at h1; cases h1
      · exact args_from h h2 u hu b hb
    · cases hd
theorem noFresh_adds (key : Nat) : ∀ (rs : List RV) (us : List Value) (i : Nat), rs.any RV.isFresh = false → Ao key i rs us = []
  | [], us, i, _ => by cases us <;> simp [Ao]
  | r :: rs, [], i, _ => by cases r <;> simp [Ao]
  | r :: rs, u :: us, i, h => by
    simp only [List.any_cons, Bool.or_eq_false_iff] at h
    have ih := noFresh_adds key rs us (i + 1) h.2
    cases r <;> simp_all [Ao, RV.isFresh]

theorem addsOf_tail (key : Nat) (r : RV) (rs : List RV) (u : Value) (us : List Value) (i : Nat) (p : Nat × Ct × Option Nat) (h : p ∈ Ao key (i + 1) rs us) : p ∈ Ao key i (r :: rs) (u :: us) := by
  cases r with
  | v x => exact h
  | fresh k l => exact List.mem_cons_of_mem _ h
  | view k l => exact h
  | cells n l => exact List.mem_cons_of_mem _ h
theorem bind_results {mem : List (Nat × Ct × Bool)} {args : List Operand} {ds : List DV} (h : RepB V β w0 N e (lk mem) a w) (hd : dvs ⟨e, lk mem⟩ args = some ds) (hx : Ext w w') {rs : List RV} {us : List Value} (hr : RepRs w w' (args.map a.eval) rs us)
    (hnd : (freshBs rs us).Nodup) (hvf : ¬ (rs.any RV.isView = true ∧ rs.any RV.isFresh = true)) {key dd : Nat} {fz : List (Nat × Ct × Bool)} (hfz : fz = if rs.any RV.isView then freezes ⟨e, lk mem⟩ args else []) (hfr : Fr (lk mem) dd (outMems key 0 rs ++ fz)) :
    ∃ β', RepB V β' w0 N e (lk ((outMems key 0 rs ++ fz) ++ mem)) a w' ∧ RepL V β' (lk ((outMems key 0 rs ++ fz) ++ mem)) w' (outAVs key 0 rs) us := by
  have hmems := addsOf_mems (w := w) (w' := w') key (args.map a.eval) rs us 0 hr
  have hok := addsOf_ok (w := w) (w' := w') key (args.map a.eval) rs us 0 hr
  have hkn := addsOf_nodup key rs us 0
  have hbl := addsOf_blocks key rs us 0
  have hfresh : ∀ k x, lk (Ao key 0 rs us) k = some x → lk mem k = none := fun k x hl => by
    refine freshM_mem hfr k x.1 (List.mem_append_left _ ?_)
    rw [hmems]
    exact List.mem_map.2 ⟨(k, x), lk_mem hl, rfl⟩
  have h1 := h.adds hx (Ao key 0 rs us) hfresh (fun k c bo hl => hok _ (lk_mem hl)) (fun k k' c c' b hl hl' => by
    have := filterMap_inj (f := fun p : Nat × Ct × Option Nat => p.2.2) (l := Ao key 0 rs us) (by rw [hbl]; exact hnd) (lk_mem hl) (lk_mem hl') rfl rfl
    exact congrArg Prod.fst this)
  have hlkm : ∀ k, lk (outMems key 0 rs) k = (lk (Ao key 0 rs us) k).map fun x => (x.1, false) := fun k => by
    rw [hmems]
    generalize Ao key 0 rs us = l
    induction l with
    | nil => rfl
    | cons p l ih =>
      obtain ⟨j, c, bo⟩ := p
      simp only [List.map_cons, lk]
      split
      · rfl
      · exact ih
  have hfzs : ∀ k c fr, lk fz k = some (c, fr) → fr = true ∧ ∃ fr', lk mem k = some (c, fr') := fun k c fr hl => by
    rw [hfz] at hl
    split at hl
    · exact freezes_spec _ _ k c fr (lk_mem hl)
    · cases hl
  have hm2 : ∀ k, lk ((outMems key 0 rs ++ fz) ++ mem) k = addm (Ao key 0 rs us) (lk mem) k ∨ ∃ c fr, addm (Ao key 0 rs us) (lk mem) k = some (c, fr) ∧ lk ((outMems key 0 rs ++ fz) ++ mem) k = some (c, true) := fun k => by
    rw [lk_append, lk_append, hlkm k]
    unfold addm
    cases hl : lk (Ao key 0 rs us) k with
    | some x => exact .inl rfl
    | none =>
      simp only [Option.map_none]
      cases hl2 : lk fz k with
      | none => exact .inl rfl
      | some y =>
        obtain ⟨c, fr⟩ := y
        obtain ⟨rfl, fr', h3⟩ := hfzs k c fr hl2
        exact .inr ⟨c, fr', h3, rfl⟩
  have h2 := h1.freeze hm2
  refine ⟨_, h2, ?_⟩
  -- the results
  have hres : ∀ (rs' : List RV) (us' : List Value) (i : Nat), RepRs w w' (args.map a.eval) rs' us' → (∀ p ∈ Ao key i rs' us', p ∈ Ao key 0 rs us) → (rs'.any RV.isView = true → rs.any RV.isView = true) →
      RepL V (addβ (Ao key 0 rs us) β) (lk ((outMems key 0 rs ++ fz) ++ mem)) w' (outAVs key i rs') us' := by
    intro rs'
    induction rs' with
    | nil => intro us' i hr' _ _; cases us' <;> first | trivial | exact hr'.elim
    | cons r rs' ih =>
      intro us' i hr' hsub hv
      cases us' with
      | nil => exact hr'.elim
      | cons u us' =>
        refine ⟨?_, ih us' (i + 1) hr'.2 (fun p hp => hsub p (addsOf_tail key r rs' u us' i p hp)) (fun hh => hv (by rw [List.any_cons, hh, Bool.or_true]))⟩
        cases r with
        | v x => exact hr'.1
        | fresh k l =>
          have hin := hsub (key + i, .ints k l, ownB u) (List.mem_cons_self ..)
          have hl1 := lk_of_mem hkn hin
          have hl2 : lk ((outMems key 0 rs ++ fz) ++ mem) (key + i) = some (.ints k l, false) := by
            rw [lk_append, lk_append, hlkm, hl1]; rfl
          have hb : addβ (Ao key 0 rs us) β (key + i) = ownB u := by simp [addβ, hl1]
          rcases hr'.1 with ⟨rfl, rfl⟩ | ⟨b, cap, arr, T, rest, rfl, hc1, hc2, _, hh, _⟩
          · exact ⟨.ints k [], false, 0, hl2, ⟨by simp, fun b hb' => Nat.zero_le _⟩, by simp [Ct.len], .inl ⟨hb, rfl, rfl⟩⟩
          · exact ⟨.ints k l, false, cap, hl2, ⟨hc2.1, fun b' hb' => by rw [hb] at hb'; cases hb'; unfold bsz; rw [hh]; simp only; omega⟩, hc1, .inr ⟨b, hb, rfl⟩⟩
        | cells n l =>
          have hin := hsub (key + i, .vals l, ownB u) (List.mem_cons_self ..)
          have hl1 := lk_of_mem hkn hin
          have hl2 : lk ((outMems key 0 rs ++ fz) ++ mem) (key + i) = some (.vals l, false) := by
            rw [lk_append, lk_append, hlkm, hl1]; rfl
          have hb : addβ (Ao key 0 rs us) β (key + i) = ownB u := by simp [addβ, hl1]
          obtain ⟨b, cap, arr, T, rest, rfl, hc1, hc2, _⟩ := hr'.1
          exact ⟨.vals l, false, cap, b, hl2, hb, hc1, hc2, rfl⟩
        | view k l =>
          have hview := hv rfl
          have hnf : rs.any RV.isFresh = false := by
            cases hq : rs.any RV.isFresh with
            | false => rfl
            | true => exact absurd ⟨hview, hq⟩ hvf
          have hadds := noFresh_adds key rs us 0 hnf
          have hmnil : outMems key 0 rs = [] := by rw [hmems, hadds]; rfl
          obtain ⟨⟨A, cap, rfl, hc1, hc2, h4⟩, hal⟩ := hr'.1
          refine ⟨A, cap, rfl, hc1, hc2, fun hl => ?_⟩
          obtain ⟨ad, rfl, hc⟩ := h4 hl
          refine ⟨ad, rfl, ⟨?_, fun key' c hk' hβ => ?_⟩, hc⟩
          · rcases hal ad.block (by simp [Lb, List.length_pos_iff.2 hl]) with hge | ⟨u, hu, hub⟩
            · exact h.fresh.1 _ (Nat.le_trans h.below.size hge)
            · exact args_from h hd u hu ad.block hub
          rw [hadds] at hβ
          rw [hmnil, List.nil_append, lk_append] at hk'
          have hβ' : β key' = some ad.block := hβ
          cases hl2 : lk fz key' with
          | some y =>
            obtain ⟨c', fr'⟩ := y
            rw [hl2] at hk'
            obtain ⟨rfl, _⟩ := hfzs key' c' fr' hl2
            cases hk'
          | none =>
            rw [hl2] at hk'
            have hk2 : lk mem key' = some (c, false) := hk'
            have hlt := h.lt (by simp [hk2]) hβ'
            rcases hal ad.block (by simp [Lb, List.length_pos_iff.2 hl]) with hge | ⟨u, hu, hub⟩
            · omega
            · rw [hfz, if_pos hview] at hl2
              exact args_apart h hd (fun x hx => hx) u hu ad.block hub key' c hk2 hl2 hβ'
  exact hres rs us 0 hr (fun p hp => hp) id
end Go.AM
namespace Go.AM
variable [Lay]
open Go.RowKit (Below)
variable {P : Program} {V : Nat → Prop} {β : Nat → Option Nat} {w0 w w' : World} {N : Nat} {e : Env} {m : Mem} {a : Act}
variable {ty : Ty} {Γ : Gam} {d : Option Tmp} {tt : TypeId} {pos : String} {after : Array Edge} {g : Option (Nat × Bool)}

def StepOk (P : Program) (V : Nat → Prop) (o : Oper) (w0 : World) (N : Nat) (e : Env) (m' : Mem) (a : Act) (w : World) (av : AV) : Prop :=
  ∀ (next : Act → World → Prop) (Q : Exit → Act → World → Prop), (∀ v w' β', RepB V β' w0 N e m' a w' → RepA V β' m' w' av v → next (a.put o.dst v) w') → o.wp P a w next Q
theorem Yes.ok {o : Oper} {m' : Mem} {av : AV} (h : Yes P V o w0 N e m' a w av) : StepOk P V o w0 N e m' a w av := by
  obtain ⟨v, w', β', hr, hb, hv⟩ := h
  intro next Q hn
  unfold Oper.wp
  rw [hr, Oper.upon_value]
  exact hn v w' β' hb hv

theorem src_ok {t : TypeId} {i : TI} (hh : TyOk P t i) : (P.underlying t).isSome = true := by
  have := hh.kind
  cases hk : i.kind <;> simp only [hk] at this <;> first
    | exact this.elim
    | (obtain ⟨h1, _⟩ := this; simp [h1])
    | (obtain ⟨_, fs, h1, _⟩ := this; simp [h1])
theorem slTy_ok (hty : TysOk P ty) {t : TypeId} (h : slTy ty t = true) : ∃ i el ei, TyOk P t i ∧ i.kind = .slice el ∧ TyOk P el ei ∧ ei.size = 1 := by
  unfold slTy at h
  split at h
  · rename_i i hi
    split at h
    · rename_i el hel
      split at h
      · rename_i ei hei
        exact ⟨i, el, ei, hty _ _ hi, hel, hty _ _ hei, by simpa using h⟩
      · cases h
    · cases h
  · cases h
theorem strTy_ok (hty : TysOk P ty) {t : TypeId} (h : strTy ty t = true) : ∃ i, TyOk P t i ∧ i.kind = .str := by
  unfold strTy at h
  split at h
  · rename_i i hi
    split at h
    · rename_i hk; exact ⟨i, hty _ _ hi, hk⟩
    · cases h
  · cases h
theorem byteSl_ok (hty : TysOk P ty) {t : TypeId} (h : byteSl ty t = true) : ∃ i el ei, TyOk P t i ∧ i.kind = .slice el ∧ TyOk P el ei ∧ ei.kind = .int .u8 := by
  unfold byteSl at h
  split at h
  · rename_i i hi
    split at h
    · rename_i el hk
      split at h
      · rename_i ei hei
        split at h
        · rename_i hki; exact ⟨i, el, ei, hty _ _ hi, hk, hty _ _ hei, hki⟩
        · cases h
      · cases h
    · cases h
  · cases h
theorem boolOk_ok (hty : TysOk P ty) {t : TypeId} {u : Value} (h : boolOk ty t u = true) (b : Bool) (hu : u = .bool b) : P.underlying t = some .bool := by
  subst hu
  simp only [boolOk] at h
  split at h
  · rename_i i hi
    split at h
    · rename_i hk
      have := (hty _ _ hi).kind
      rw [hk] at this
      exact this.1
    · cases h
  · cases h
theorem bracket_ok {s : St} {n : Nat} {lo ho : Option Operand} {lh : Int × Int} (h : bracket s n lo ho = some lh) : lo? s lo = some lh.1 ∧ hi? s n ho = some lh.2 := by
  unfold bracket at h
  split at h
  · rename_i l hh h1 h2; cases h; exact ⟨h1, h2⟩
  · cases h
theorem fillParts_length (place : Nat → Option (Nat × Nat)) (s : St) : ∀ (parts : List (Nat × Operand)) (cs cs' : List Value), fillParts place s parts cs = some cs' → cs'.length = cs.length
  | [], cs, cs', h => by simp [fillParts] at h; rw [h]
  | (i, x) :: r, cs, cs', h => by
    simp only [fillParts] at h
    split at h
    · split at h
      · rw [fillParts_length place s r _ cs' h, length_setL]
      · cases h
    · cases h
theorem lk_one {key : Nat} {c : Ct} {mem : List (Nat × Ct × Bool)} : lk ([(key, c, false)] ++ mem) = fun k => if k = key then some (c, false) else lk mem k := by
  funext k; rfl
theorem fresh_one {dd : Nat} {key : Nat} {c : Ct} (h : Fr m dd [(key, c, false)]) : m key = none := by
  rcases h.1 with h1 | h1
  · cases h1
  · exact h1.2.2
theorem valOf_some {av : AV} {v : Value} (h : valOf av = some v) : av = .v v := by
  unfold valOf at h; split at h <;> simp_all
theorem resolve_func {f : Nat} {args : Array Operand} {ts : Array TypeId} (w : World) : ((execOp a.eval ⟨d, .call ⟨.value (.func f), args, ts⟩, tt, pos, after, g⟩).run P w) = (callFunc f (args.map a.eval)).run P w := by
  simp [execOp, resolve, Deferred.ofValue, Act.eval, invoke]

variable {mem : List (Nat × Ct × Bool)}
theorem call_ok (h : RepB V β w0 N e (lk mem) a w) (hΓ : Gk P Γ) {f dd : Nat} {args : Array Operand} {ts : Array TypeId} {out : Out} (hs : stCall Γ ⟨e, lk mem⟩ dd f args.toList = some out) (hp : out.pre) (hf : Fr (lk mem) dd out.mem) :
    StepOk P V ⟨d, .call ⟨.value (.func f), args, ts⟩, tt, pos, after, g⟩ w0 N e (lk (out.mem ++ mem)) a w out.av := by
  unfold stCall at hs
  obtain ⟨⟨fk, spec⟩, h1, hs⟩ := Option.bind_eq_some_iff.1 hs
  obtain ⟨ds, h2, hs⟩ := Option.bind_eq_some_iff.1 hs
  obtain ⟨⟨p, r⟩, h3, hs⟩ := Option.map_eq_some_iff.1 hs
  have hsound := hΓ f fk spec h1
  have hds := dvs_ok h h2
  have hargs : (args.toList.map a.eval).toArray = args.map a.eval := by apply Array.ext'; simp
  have hpre : p := by
    subst hs
    cases r with
    | one r => exact hp
    | many rs => exact hp.1
  -- what is owed behind the call
  have fin : ∀ v w', Ext w w' → RepRes w w' (args.toList.map a.eval) r v → ∃ β', RepB V β' w0 N e (lk (out.mem ++ mem)) a w' ∧ RepA V β' (lk (out.mem ++ mem)) w' out.av v := by
    intro v w' hx hr
    cases r with
    | one r =>
      have hr' : RepRs w w' (args.toList.map a.eval) [r] [v] := ⟨hr, trivial⟩
      have hnd : (freshBs [r] [v]).Nodup := by
        cases r <;> simp only [freshBs]
        · simp
        · cases ownB v <;> simp
        · simp
        · cases ownB v <;> simp
      have hvf : ¬ ([r].any RV.isView = true ∧ [r].any RV.isFresh = true) := by cases r <;> simp [RV.isView, RV.isFresh]
      have hmm : outMems (16 * dd) 0 [r] = outMem (16 * dd) r := by simp [outMems]
      have hany : [r].any RV.isView = r.isView := by simp
      subst hs
      simp only [bindRes] at hf ⊢
      obtain ⟨β', hb, hl⟩ := bind_results h h2 hx hr' hnd hvf (key := 16 * dd) (dd := dd) (fz := if r.isView then freezes ⟨e, lk mem⟩ args.toList else []) (by rw [hany]) (by rw [hmm]; exact hf)
      rw [hmm] at hb hl
      exact ⟨β', hb, RepA.of_S hl.1⟩
    | many rs =>
      obtain ⟨us, rfl, hr', hnd⟩ := hr
      subst hs
      simp only [bindRes] at hf hp ⊢
      obtain ⟨β', hb, hl⟩ := bind_results h h2 hx hr' hnd hp.2 (key := 16 * dd) (dd := dd) rfl hf
      exact ⟨β', hb, us, rfl, hl⟩
  intro next Q hn
  cases fk with
  | body =>
    obtain ⟨fn, hf1, hf2, hf3, hc⟩ := hsound
    have hcall := hc ds p r h3 hpre w _ (Lay.keep h.fresh.2 h.below) hds
    rw [hargs] at hcall
    unfold Oper.wp
    rw [resolve_func]
    have hrun : (callFunc f (args.map a.eval)).run P w = .ok (.enter f (args.map a.eval)) w := by
      have hne : fn.name ≠ "runtime.NumGoroutine" := by simpa using hf2
      have hb3 : fn.body ≠ none := fun hh => by simp [hh] at hf3
      simp [callFunc, hf1, hne, hb3]
    rw [hrun, Oper.upon_enter]
    refine hcall.mono ?_
    rintro e' w' ⟨v, rfl, hbel, hr⟩
    obtain ⟨β', hb, hv⟩ := fin v w' (Ext.of_below hbel) hr
    exact hn v w' β' hb hv
  | ext =>
    obtain ⟨v, hrun, hr, _⟩ := hsound ds p r h3 hpre w _ hds
    rw [hargs] at hrun
    unfold Oper.wp
    rw [resolve_func, hrun, Oper.upon_value]
    obtain ⟨β', hb, hv⟩ := fin v w (Ext.refl w) hr
    exact hn v w β' hb hv

theorem step_ok (h : RepB V β w0 N e (lk mem) a w) (hty : TysOk P ty) (hΓ : Gk P Γ) {dd : Nat} {op : Op} {out : Out} (hs : aStep ty Γ ⟨e, lk mem⟩ dd op = some out) (hp : out.pre) (hf : Fr (lk mem) dd out.mem) :
    StepOk P V ⟨d, op, tt, pos, after, g⟩ w0 N e (lk (out.mem ++ mem)) a w out.av := by
  unfold aStep at hs
  split at hs
  · cases hs; exact (yes_move h _).ok
  · cases hs; exact (yes_assign h _).ok
  · split at hs
    · rename_i hc; cases hs; exact (yes_pick h hc).ok
    · cases hs
  · obtain ⟨i, hi, rfl⟩ := Option.map_eq_some_iff.1 hs
    rw [lk_one]
    exact (yes_alloc h (hty _ _ hi) (fresh_one hf)).ok
  · obtain ⟨v, hv, hs⟩ := Option.bind_eq_some_iff.1 hs
    split at hs
    · rename_i hc
      cases hs
      rw [lk_one]
      exact (yes_box h (valOf_some hv) hc (fresh_one hf)).ok
    · cases hs
  · unfold stBuild at hs
    obtain ⟨i, hi, hs⟩ := Option.bind_eq_some_iff.1 hs
    split at hs
    · rename_i fs hk
      obtain ⟨cs, hcs, rfl⟩ := Option.map_eq_some_iff.1 hs
      exact (yes_build_struct h hty (hty _ _ hi) hk hcs).ok
    · rename_i n el hk
      obtain ⟨ei, hei, hs⟩ := Option.bind_eq_some_iff.1 hs
      obtain ⟨cs, hcs, rfl⟩ := Option.map_eq_some_iff.1 hs
      exact (yes_build_arr h (hty _ _ hi) hk (hty _ _ hei) hcs).ok
    · cases hs
  · unfold stBuildSlice at hs
    obtain ⟨i, hi, hs⟩ := Option.bind_eq_some_iff.1 hs
    split at hs
    · rename_i el hk
      obtain ⟨ei, hei, hs⟩ := Option.bind_eq_some_iff.1 hs
      split at hs
      · rename_i k hki
        split at hs
        · rename_i hn
          obtain ⟨cs, hcs, hs⟩ := Option.bind_eq_some_iff.1 hs
          obtain ⟨l, hl, rfl⟩ := Option.map_eq_some_iff.1 hs
          rw [lk_one]
          exact (yes_buildSlice h (hty _ _ hi) hk (hty _ _ hei) hki hn hcs hl (fresh_one hf) (by rw [fillParts_length _ _ _ _ _ hcs]; simp)).ok
        · cases hs
      · split at hs
        · rename_i hn
          obtain ⟨cs, hcs, hs⟩ := Option.bind_eq_some_iff.1 hs
          split at hs
          · rename_i hok
            cases hs
            rw [lk_one]
            exact (yes_buildSliceS h (hty _ _ hi) hk (hty _ _ hei) hn.1 hn.2.1 hn.2.2 hcs hok (fresh_one hf)).ok
          · cases hs
        · cases hs
      · cases hs
    · cases hs
  · unfold stLoad at hs
    obtain ⟨i, hi, hs⟩ := Option.bind_eq_some_iff.1 hs
    split at hs
    · rename_i key off hx
      obtain ⟨⟨c, fr⟩, hk, hs⟩ := Option.bind_eq_some_iff.1 hs
      obtain ⟨⟨p, v⟩, hl, rfl⟩ := Option.map_eq_some_iff.1 hs
      exact (yes_load_ref h (hty _ _ hi) hx hk hl hp).ok
    · rename_i v hx
      split at hs
      · rename_i hag; cases hs; exact (yes_load_pt h (hty _ _ hi) hx hag).ok
      · cases hs
    · cases hs
  · rename_i o t x y t'
    generalize hx : opd ⟨e, lk mem⟩ x = ax at hs
    generalize hy : opd ⟨e, lk mem⟩ y = ay at hs
    unfold stBin at hs
    split at hs
    · rename_i u v
      obtain ⟨i, hi, hs⟩ := Option.bind_eq_some_iff.1 hs
      split at hs
      · rename_i hc
        split at hs
        · obtain ⟨b, hb, rfl⟩ := Option.map_eq_some_iff.1 hs
          exact (yes_eq_agg h (hty _ _ hi) hx hy hc.1 hc.2.1 hc.2.2 hb).ok
        · obtain ⟨b, hb, rfl⟩ := Option.map_eq_some_iff.1 hs
          exact (yes_neq_agg h (hty _ _ hi) hx hy hc.1 hc.2.1 hc.2.2 hb).ok
        · cases hs
      · cases hs
    · rename_i u v _
      split at hs
      · rename_i hbk
        obtain ⟨⟨p, r⟩, hb, rfl⟩ := Option.map_eq_some_iff.1 hs
        exact (yes_bin h hx hy hb hp (fun b c hu _ => boolOk_ok hty hbk b hu)).ok
      · cases hs
    · cases hs
  · unfold stUn at hs
    split at hs
    · rename_i u hx
      obtain ⟨⟨p, r⟩, hb, rfl⟩ := Option.map_eq_some_iff.1 hs
      exact (yes_un h hx hb hp).ok
    · cases hs
  · unfold stConv at hs
    obtain ⟨i0, hi0, hs⟩ := Option.bind_eq_some_iff.1 hs
    obtain ⟨i, hi, hs⟩ := Option.bind_eq_some_iff.1 hs
    split at hs
    · rename_i k u hk hx
      obtain ⟨⟨p, r⟩, hb, rfl⟩ := Option.map_eq_some_iff.1 hs
      exact (yes_convert h (hty _ _ hi) (src_ok (hty _ _ hi0)) hk hx hb hp).ok
    · rename_i k u hk hx
      obtain ⟨r, hb, rfl⟩ := Option.map_eq_some_iff.1 hs
      exact (yes_convertF h (hty _ _ hi) (src_ok (hty _ _ hi0)) hk hx hb).ok
    · rename_i k n hk hx
      cases hs
      exact (yes_convIntStr h (hty _ _ hi) (src_ok (hty _ _ hi0)) hk hx).ok
    · rename_i hk _
      split at hs
      · rename_i hbs
        obtain ⟨l, hl, rfl⟩ := Option.map_eq_some_iff.1 hs
        obtain ⟨i1, el, ei, h1, h2, h3, h4⟩ := byteSl_ok hty hbs
        exact (yes_convBytes h (hty _ _ hi) h1 h2 h3 h4 hk hl).ok
      · cases hs
    · cases hs
  · rename_i t x y
    generalize hx : opd ⟨e, lk mem⟩ x = ax at hs
    generalize hy : opd ⟨e, lk mem⟩ y = ay at hs
    unfold stMake at hs
    obtain ⟨i, hi, hs⟩ := Option.bind_eq_some_iff.1 hs
    split at hs
    · rename_i el hk
      obtain ⟨ei, hei, hs⟩ := Option.bind_eq_some_iff.1 hs
      split at hs
      · rename_i hb
        split at hs
        · cases hs
          rw [lk_one]
          exact (yes_makeSlice h (hty _ _ hi) hk (hty _ _ hei) ‹ei.kind = .int _› hx hy hp hb (fresh_one hf)).ok
        · cases hs
      · cases hs
    · cases hs
  · rename_i t x lo ho
    generalize hx : opd ⟨e, lk mem⟩ x = ax at hs
    unfold stSlice at hs
    split at hs
    · split at hs
      · rename_i hst
        obtain ⟨lh, hlh, rfl⟩ := Option.map_eq_some_iff.1 hs
        obtain ⟨i, hi, hk⟩ := strTy_ok hty hst
        obtain ⟨h1, h2⟩ := bracket_ok hlh
        exact (yes_slice_str h hi hk hx h1 h2 hp).ok
      · cases hs
    · split at hs
      · rename_i hst
        obtain ⟨lh, hlh, rfl⟩ := Option.map_eq_some_iff.1 hs
        obtain ⟨i, el, ei, hi, hk, hei, h1'⟩ := slTy_ok hty hst
        obtain ⟨h1, h2⟩ := bracket_ok hlh
        exact (yes_slice_rd h hi hk hei h1' hx h1 h2 hp).ok
      · cases hs
    · split at hs
      · rename_i hst
        obtain ⟨⟨c, fr⟩, hc, hs⟩ := Option.bind_eq_some_iff.1 hs
        obtain ⟨lh, hlh, rfl⟩ := Option.map_eq_some_iff.1 hs
        obtain ⟨i, el, ei, hi, hk, hei, h1'⟩ := slTy_ok hty hst
        obtain ⟨h1, h2⟩ := bracket_ok hlh
        exact (yes_slice_ow h hi hk hei h1' hx hc h1 h2 hp).ok
      · cases hs
    · split at hs
      · rename_i hst
        obtain ⟨lh, hlh, rfl⟩ := Option.map_eq_some_iff.1 hs
        obtain ⟨i, el, ei, hi, hk, hei, h1'⟩ := slTy_ok hty hst
        obtain ⟨h1, h2⟩ := bracket_ok hlh
        exact (yes_slice_al h hi hk hei h1' hx h1 h2 hp).ok
      · cases hs
    · split at hs
      · rename_i hst
        obtain ⟨lh, hlh, rfl⟩ := Option.map_eq_some_iff.1 hs
        obtain ⟨i, el, ei, hi, hk, hei, h1'⟩ := slTy_ok hty hst
        obtain ⟨h1, h2⟩ := bracket_ok hlh
        exact (yes_slice_nil (u := 0) h hi hk hei h1' hx h1 h2 hp).ok
      · cases hs
    · obtain ⟨i, hi, hs⟩ := Option.bind_eq_some_iff.1 hs
      split at hs
      · rename_i n el hk
        obtain ⟨ei, hei, hs⟩ := Option.bind_eq_some_iff.1 hs
        split at hs
        · rename_i hc
          obtain ⟨⟨c, fr⟩, hcc, hs⟩ := Option.bind_eq_some_iff.1 hs
          obtain ⟨lh, hlh, rfl⟩ := Option.map_eq_some_iff.1 hs
          obtain ⟨h1, h2⟩ := bracket_ok hlh
          exact (yes_slice_arr h (hty _ _ hi) hk (hty _ _ hei) hc.1 hc.2 hx h1 h2 hp.1 hcc hp.2).ok
        · cases hs
      · cases hs
    · cases hs
  · unfold stFieldAddr at hs
    obtain ⟨i, hi, hs⟩ := Option.bind_eq_some_iff.1 hs
    split at hs
    · rename_i fs key off hk hx
      obtain ⟨⟨o, ft⟩, hfo, rfl⟩ := Option.map_eq_some_iff.1 hs
      exact (yes_fieldAddr h (hty _ _ hi) hk hx hfo).ok
    · cases hs
  · unfold stField at hs
    obtain ⟨i, hi, hs⟩ := Option.bind_eq_some_iff.1 hs
    split at hs
    · rename_i fs cs hk hx
      obtain ⟨⟨o, ft⟩, hfo, hs⟩ := Option.bind_eq_some_iff.1 hs
      obtain ⟨fi, hfi, hs⟩ := Option.bind_eq_some_iff.1 hs
      obtain ⟨⟨p, v⟩, hl, rfl⟩ := Option.map_eq_some_iff.1 hs
      exact (yes_field h (hty _ _ hi) hk hx hfo (hty _ _ hfi) hl hp).ok
    · cases hs
  · rename_i t x y
    unfold stIndexAddr at hs
    obtain ⟨j, hj, hs⟩ := Option.bind_eq_some_iff.1 hs
    split at hs
    · rename_i k l hx
      split at hs
      · rename_i hst
        cases hs
        obtain ⟨i, el, ei, hi, hk, hei, h1'⟩ := slTy_ok hty hst
        exact (yes_indexAddr_rd h hi hk hei h1' hx hj hp).ok
      · cases hs
    · rename_i key hx
      split at hs
      · rename_i hst
        obtain ⟨⟨c, fr⟩, hc, rfl⟩ := Option.map_eq_some_iff.1 hs
        obtain ⟨i, el, ei, hi, hk, hei, h1'⟩ := slTy_ok hty hst
        exact (yes_indexAddr_ow h hi hk hei h1' hx hc hj hp).ok
      · cases hs
    · rename_i key lo n hx
      split at hs
      · rename_i hst
        cases hs
        obtain ⟨i, el, ei, hi, hk, hei, h1'⟩ := slTy_ok hty hst
        exact (yes_indexAddr_al h hi hk hei h1' hx hj hp).ok
      · cases hs
    · rename_i key n hx
      obtain ⟨i, hi, hs⟩ := Option.bind_eq_some_iff.1 hs
      split at hs
      · rename_i el hk
        obtain ⟨ei, hei, rfl⟩ := Option.map_eq_some_iff.1 hs
        exact (yes_indexAddr_ows h (hty _ _ hi) hk (hty _ _ hei) hx hj hp).ok
      · cases hs
    · rename_i key off hx
      obtain ⟨i, hi, hs⟩ := Option.bind_eq_some_iff.1 hs
      split at hs
      · rename_i n el hk
        obtain ⟨ei, hei, rfl⟩ := Option.map_eq_some_iff.1 hs
        exact (yes_indexAddr_arr h (hty _ _ hi) hk hx hj (hty _ _ hei) hp).ok
      · cases hs
    · cases hs
  · rename_i t x y
    unfold stIndex at hs
    obtain ⟨j, hj, hs⟩ := Option.bind_eq_some_iff.1 hs
    split at hs
    · rename_i b hx
      split at hs
      · rename_i hst
        cases hs
        obtain ⟨i, hi, hk⟩ := strTy_ok hty hst
        exact (yes_index_str h hi hk hx hj hp).ok
      · cases hs
    · rename_i cs hx
      obtain ⟨i, hi, hs⟩ := Option.bind_eq_some_iff.1 hs
      split at hs
      · rename_i n el hk
        obtain ⟨ei, hei, hs⟩ := Option.bind_eq_some_iff.1 hs
        obtain ⟨⟨p, v⟩, hl, rfl⟩ := Option.map_eq_some_iff.1 hs
        exact (yes_index_agg h (hty _ _ hi) hk hx hj (hty _ _ hei) hl hp.1 hp.2).ok
      · cases hs
    · cases hs
  · unfold stExtract at hs
    split at hs
    · rename_i l hx
      obtain ⟨av, hi, rfl⟩ := Option.map_eq_some_iff.1 hs
      exact (yes_extract h hx hi).ok
    · cases hs
  · rename_i x t
    generalize hx : opd ⟨e, lk mem⟩ x = ax at hs
    unfold stLen at hs
    split at hs
    · split at hs
      · rename_i hst
        cases hs
        obtain ⟨i, hi, hk⟩ := strTy_ok hty hst
        exact (yes_len_str h hi hk hx).ok
      · cases hs
    · split at hs
      · rename_i hst
        obtain ⟨n, hn, rfl⟩ := Option.map_eq_some_iff.1 hs
        obtain ⟨i, el, ei, hi, hk, hei, h1'⟩ := slTy_ok hty hst
        exact (yes_len_sl h hi hk (by rw [hx]; exact hn)).ok
      · cases hs
  · rename_i x y ts
    generalize hx : opd ⟨e, lk mem⟩ x = ax at hs
    generalize hy : opd ⟨e, lk mem⟩ y = ay at hs
    unfold stMax at hs
    split at hs
    · cases hs; exact (yes_max h hx hy).ok
    · cases hs
  · rename_i x y ts
    generalize hx : opd ⟨e, lk mem⟩ x = ax at hs
    generalize hy : opd ⟨e, lk mem⟩ y = ay at hs
    unfold stMin at hs
    split at hs
    · cases hs; exact (yes_min h hx hy).ok
    · cases hs
  · exact call_ok h hΓ hs hp hf
  · cases hs
end Go.AM
namespace Go.AM
variable [Lay]
open Go.RowKit (Below)
variable {P : Program} {V : Nat → Prop} {β : Nat → Option Nat} {w0 w w' : World} {N : Nat} {e : Env} {m : Mem} {a : Act}
variable {ty : Ty} {Γ : Gam} {d : Option Tmp} {tt : TypeId} {pos : String} {after : Array Edge} {g : Option (Nat × Bool)}
def names (key : Nat) : AV → Bool
  | .ref k _ => k == key
  | .ow k => k == key
  | .al k _ _ => k == key
  | .ows k _ => k == key
  | _ => false
def namesT (key : Nat) : AV → Bool
  | .tup l => l.any (names key)
  | a => names key a
def killE (key : Nat) (env : List (Nat × AV)) : List (Nat × AV) := env.map fun p => (p.1, if namesT key p.2 then .dead else p.2)
theorem lk_killE {key : Nat} : ∀ (env : List (Nat × AV)) (t : Nat), lk (killE key env) t = (lk env t).map fun a => if namesT key a then .dead else a
  | [], _ => rfl
  | (j, x) :: r, t => by
    simp only [killE, List.map_cons, lk]
    split
    · rfl
    · exact lk_killE r t
theorem World.cell_of_heap {w w' : World} {ad : Addr} {v : Value} (h : w'.heap[ad.block]? = w.heap[ad.block]?) (hc : w.cell? ad = some v) : w'.cell? ad = some v := (World.cell?_of_block h).trans hc
theorem RepS.other {β' : Nat → Option Nat} {m' : Mem} {key : Nat} {av : AV} {v : Value} (hr : RepS V β m w av v) (hn : names key av = false) (hβ : ∀ k, k ≠ key → β' k = β k) (hm : ∀ k, k ≠ key → m' k = m k)
    (hheap : ∀ b, Apart β m b → b < w.heap.size → w'.heap[b]? = w.heap[b]?) (hap : ∀ b, b < w.heap.size → Apart β m b → Apart β' m' b) (hz : ∀ k b, k ≠ key → (m k).isSome = true → β k = some b → bsz w b ≤ bsz w' b) : RepS V β' m' w' av v := by
  cases av with
  | v x => exact hr
  | pt x =>
    obtain ⟨ad, h1, h2, h3⟩ := hr
    have hlt := World.block_lt_of_cell? w ad h2
    exact ⟨ad, h1, World.cell_of_heap (hheap _ h3 hlt) h2, hap _ hlt h3⟩
  | rd k l =>
    obtain ⟨A, cap, h1, h2, h3, h4⟩ := hr
    refine ⟨A, cap, h1, h2, h3, fun hl => ?_⟩
    obtain ⟨ad, e, hp, hc⟩ := h4 hl
    have hadd : ∀ i, (ad.add i).block = ad.block := fun i => by unfold Addr.add; split <;> rfl
    have h0 := World.block_lt_of_cell? w _ (hc 0 (List.length_pos_iff.2 hl))
    rw [hadd] at h0
    exact ⟨ad, e, ⟨hp.1, hap _ h0 hp.2⟩, fun i hi => World.cell_of_heap (by rw [hadd]; exact hheap _ hp.2 h0) (hc i hi)⟩
  | ref k off =>
    have hk : k ≠ key := by simpa [names] using hn
    obtain ⟨h0, b, h1, h2⟩ := hr
    exact ⟨by rw [hm k hk]; exact h0, b, by rw [hβ k hk]; exact h1, h2⟩
  | ow k =>
    have hk : k ≠ key := by simpa [names] using hn
    obtain ⟨c, fr, cap, h1, h2, h3, h4⟩ := hr
    exact ⟨c, fr, cap, by rw [hm k hk]; exact h1, h2.mono (hβ k hk) (fun b hb => hz k b hk (by rw [h1]; rfl) hb), h3, by rw [hβ k hk]; exact h4⟩
  | al k lo n =>
    have hk : k ≠ key := by simpa [names] using hn
    obtain ⟨⟨c, fr, h1, h2⟩, A, cap, h3, h4, h5, h6⟩ := hr
    exact ⟨⟨c, fr, by rw [hm k hk]; exact h1, h2⟩, A, cap, h3, h4, h5.mono (hβ k hk) (fun b hb => hz k b hk (by rw [h1]; rfl) hb), by rw [hβ k hk]; exact h6⟩
  | ows k n =>
    have hk : k ≠ key := by simpa [names] using hn
    obtain ⟨c, fr, cap, b, h1, h2, h3⟩ := hr
    exact ⟨c, fr, cap, b, by rw [hm k hk]; exact h1, by rw [hβ k hk]; exact h2, h3⟩
  | tup l => exact hr
  | dead => trivial
theorem RepL.other {β' : Nat → Option Nat} {m' : Mem} {key : Nat} (hβ : ∀ k, k ≠ key → β' k = β k) (hm : ∀ k, k ≠ key → m' k = m k)
    (hheap : ∀ b, Apart β m b → b < w.heap.size → w'.heap[b]? = w.heap[b]?) (hap : ∀ b, b < w.heap.size → Apart β m b → Apart β' m' b) (hz : ∀ k b, k ≠ key → (m k).isSome = true → β k = some b → bsz w b ≤ bsz w' b) :
    ∀ {l : List AV} {vs : List Value}, RepL V β m w l vs → l.any (names key) = false → RepL V β' m' w' l vs
  | [], [], _, _ => trivial
  | x :: l, v :: vs, ⟨h1, h2⟩, hn => by
    simp only [List.any_cons, Bool.or_eq_false_iff] at hn
    exact ⟨h1.other hn.1 hβ hm hheap hap hz, RepL.other hβ hm hheap hap hz h2 hn.2⟩
  | [], _ :: _, h, _ => h
  | _ :: _, [], h, _ => h
theorem RepA.other {β' : Nat → Option Nat} {m' : Mem} {key : Nat} {av : AV} {v : Value} (hr : RepA V β m w av v) (hn : namesT key av = false) (hβ : ∀ k, k ≠ key → β' k = β k) (hm : ∀ k, k ≠ key → m' k = m k)
    (hheap : ∀ b, Apart β m b → b < w.heap.size → w'.heap[b]? = w.heap[b]?) (hap : ∀ b, b < w.heap.size → Apart β m b → Apart β' m' b) (hz : ∀ k b, k ≠ key → (m k).isSome = true → β k = some b → bsz w b ≤ bsz w' b) : RepA V β' m' w' av v := by
  cases av with
  | tup l =>
    obtain ⟨vs, h1, h2⟩ := hr
    exact ⟨vs, h1, RepL.other hβ hm hheap hap hz h2 hn⟩
  | v x => exact RepS.other (V := V) (av := .v x) hr rfl hβ hm hheap hap hz
  | pt x => exact RepS.other (V := V) (av := .pt x) hr rfl hβ hm hheap hap hz
  | rd k l => exact RepS.other (V := V) (av := .rd k l) hr rfl hβ hm hheap hap hz
  | ref k off => exact RepS.other (V := V) (av := .ref k off) hr hn hβ hm hheap hap hz
  | ow k => exact RepS.other (V := V) (av := .ow k) hr hn hβ hm hheap hap hz
  | al k lo n => exact RepS.other (V := V) (av := .al k lo n) hr hn hβ hm hheap hap hz
  | ows k n => exact RepS.other (V := V) (av := .ows k n) hr hn hβ hm hheap hap hz
  | dead => trivial
theorem RepB.regrow {env : List (Nat × AV)} (h : RepB V β w0 N (lk env) m a w) {key nb : Nat} {c' : Ct} {arr : Array Value} {T : TypeId} {rest : List Value} (hbelow : Below w0.heap.size w0 w') (hsize : w.heap.size ≤ w'.heap.size)
    (hother : ∀ j, j < w.heap.size → j ≠ nb → w'.heap[j]? = w.heap[j]?) (hnb : w'.heap[nb]? = some (.cells arr T (0, 0))) (harr : arr.toList = c'.cells ++ rest) (hok : Oc c'.cells = true) (hB : w0.heap.size ≤ nb)
    (hown : w.heap.size ≤ nb ∨ (β key = some nb ∧ ∃ c0, m key = some (c0, false))) :
    RepB V (fun k => if k = key then some nb else β k) w0 N (lk (killE key env)) (fun k => if k = key then some (c', false) else m k) a w' := by
  have hne : ∀ k b, k ≠ key → (m k).isSome = true → β k = some b → b ≠ nb := fun k b hk hs hb hbn => by
    subst hbn
    rcases hown with hge | ⟨h1, c0, h2⟩
    · have := h.lt hs hb; omega
    · exact hk (h.inj k key b hs (by rw [h2]; rfl) hb h1)
  have hapne : ∀ b, Apart β m b → b < w.heap.size → b ≠ nb := fun b hap hlt hbn => by
    subst hbn
    rcases hown with hge | ⟨h1, c0, h2⟩
    · omega
    · exact hap key c0 h2 h1
  refine ⟨h.fresh, hbelow, h.size, h.defers, ?_, ?_, ?_⟩
  · intro k c fr hk
    by_cases hkk : k = key
    · subst hkk
      simp only [if_true, Option.some.injEq, Prod.mk.injEq] at hk ⊢
      obtain ⟨rfl, rfl⟩ := hk
      exact ⟨hok, .inr ⟨nb, arr, T, rest, rfl, hB, hnb, harr⟩⟩
    · simp only [if_neg hkk] at hk ⊢
      obtain ⟨ho, h1 | ⟨b1, arr1, T1, rest1, h1, h2, h3, h4⟩⟩ := h.mem k c fr hk
      · exact ⟨ho, .inl h1⟩
      · have hlt := h.lt (by rw [hk]; rfl) h1
        exact ⟨ho, .inr ⟨b1, arr1, T1, rest1, h1, h2, by rw [hother b1 hlt (hne k b1 hkk (by rw [hk]; rfl) h1)]; exact h3, h4⟩⟩
  · intro k k' b h1 h2 e1 e2
    simp only at h1 h2 e1 e2
    by_cases hk : k = key <;> by_cases hk' : k' = key
    · rw [hk, hk']
    · rw [if_pos hk] at e1; rw [if_neg hk'] at e2 h2
      cases e1
      exact absurd rfl (hne k' nb hk' h2 e2)
    · rw [if_neg hk] at e1 h1; rw [if_pos hk'] at e2
      cases e2
      exact absurd rfl (hne k nb hk h1 e1)
    · rw [if_neg hk] at e1 h1; rw [if_neg hk'] at e2 h2
      exact h.inj k k' b h1 h2 e1 e2
  · intro t av ht
    rw [lk_killE] at ht
    obtain ⟨av0, h1, rfl⟩ := Option.map_eq_some_iff.1 ht
    obtain ⟨v, hv, hr⟩ := h.slots t av0 h1
    refine ⟨v, hv, ?_⟩
    cases hn : namesT key av0 with
    | true => rw [if_pos rfl]; trivial
    | false =>
      rw [if_neg (by simp)]
      refine hr.other hn (fun k hk => if_neg hk) (fun k hk => if_neg hk) (fun b hap hlt => hother b hlt (hapne b hap hlt)) (fun b hlt hap k c hk he => ?_) (fun k b hk hs hb => ?_)
      · by_cases hkk : k = key
        · simp only [if_pos hkk] at he
          cases he
          exact hapne _ hap hlt rfl
        · simp only [if_neg hkk] at hk he
          exact hap k c hk he
      · have hlt := h.lt hs hb
        unfold AM.bsz
        rw [hother b hlt (hne k b hk hs hb)]
        exact Nat.le_refl _
end Go.AM
namespace Go.AM
variable [Lay]
open Go.RowKit (Below)
variable {P : Program} {V : Nat → Prop} {β : Nat → Option Nat} {w0 w w' : World} {N : Nat} {e : Env} {m : Mem} {a : Act}
variable {ty : Ty} {Γ : Gam} {d : Option Tmp} {tt : TypeId} {pos : String} {after : Array Edge} {g : Option (Nat × Bool)}
theorem run_app_room (w : World) (t tr el : TypeId) (i : TypeInfo) (ht : P.underlying t = some (.slice el)) (hi : P.info? el = some i) (hi1 : i.size = 1)
    (g sLen sCap : Nat) (cur : Array Value) (T : TypeId) (hg : w.heap[g]? = some (.cells cur T (0, 0)))
    (ad : Addr) (k c : Nat) (news : List Value) (hl : news.length = k) (hnews : ∀ j u, news[j]? = some u → w.cell? (ad.add j) = some u) (h1 : ∀ u ∈ news, u.oneCell' = true)
    (hroom : sLen + k ≤ sCap) (hfit : sLen + k ≤ cur.size) :
    (Builtin.append_ #[t, t] tr #[.slice (some ⟨g, 0, none⟩) sLen sCap, .slice (some ad) k c]).run P w =
      .ok (.slice (some ⟨g, 0, none⟩) (sLen + k) sCap) (w.setRow g (cur.toList.take sLen ++ news ++ cur.toList.drop (sLen + k)).toArray) := by
  have hf := run_firstCells_some (P := P) w i.size k ad k c news (by rw [hi1, Nat.mul_one]; exact hl) hnews
  have hst := run_storeCells_at P g sLen T news 0 cur w hg (by omega) h1
  simp only [Nat.add_zero] at hst
  rw [hi1] at hf
  rw [hl] at hst
  simp [Builtin.append_, run_underlying ht, sizeOf, typeInfo, hi, hi1, Builtin.lenOf, hroom, hf, Addr.add_lit, hst]
theorem run_app_zero (w : World) (t tr el : TypeId) (i : TypeInfo) (ht : P.underlying t = some (.slice el)) (hi : P.info? el = some i) (hi1 : i.size = 1)
    (A B : Option Addr) (sLen sCap c : Nat) (hroom : sLen ≤ sCap) :
    (Builtin.append_ #[t, t] tr #[.slice A sLen sCap, .slice B 0 c]).run P w = .ok (.slice A sLen sCap) w := by
  have hl : ∀ (x : Addr), (loadCells x 0).run P w = .ok #[] w := fun x => by simpa using run_loadCells_list (P := P) w x [] (by simp)
  cases A <;> cases B <;> simp [Builtin.append_, run_underlying ht, sizeOf, typeInfo, hi, hi1, Builtin.lenOf, hroom, Builtin.firstCells, storeCells, hl]

def yInts (s : St) (k : IntKind) (x : AV) : Option (List Int) := match x with
  | .v (.slice none 0 0) => some []
  | _ => match dvOf s x with
    | some (.sl k' l) => if k' = k then some l else none
    | _ => none
theorem yInts_ok (h : RepB V β w0 N e m a w) {y : Operand} {k : IntKind} {l : List Int} (hy : yInts ⟨e, m⟩ k (opd ⟨e, m⟩ y) = some l) :
    ∃ A cap, a.eval y = .slice A l.length cap ∧ l.length ≤ cap ∧ (l ≠ [] → ∃ ad : Addr, A = some ad ∧ ∀ j u, (l.map (Value.int k))[j]? = some u → w.cell? (ad.add j) = some u) := by
  have hrep := h.opd y
  unfold yInts at hy
  split at hy
  · rename_i hx
    cases hy
    rw [hx] at hrep
    exact ⟨none, 0, hrep, Nat.le_refl _, fun h => absurd rfl h⟩
  · split at hy
    · rename_i k' l' hd
      split at hy
      · rename_i hk
        subst hk
        cases hy
        obtain ⟨A, cap, h1, h2, h3, h4⟩ := dvOf_ok h hrep hd
        refine ⟨A, cap, h1, h2, fun hl => ?_⟩
        obtain ⟨ad, h5, h6⟩ := h4 hl
        refine ⟨ad, h5, fun j u hu => ?_⟩
        rw [List.getElem?_map] at hu
        obtain ⟨x, hx, rfl⟩ := Option.map_eq_some_iff.1 hu
        have hj := (List.getElem?_eq_some_iff.1 hx).1
        rw [h6 j hj]
        simp [List.getD_eq_getElem?_getD, hx]
      · cases hy
    · cases hy
def isSp (op : Op) : Bool := match op with
  | .call ⟨.builtin .append, _, _⟩ => true
  | .call ⟨.builtin .copy, _, _⟩ => true
  | _ => false
def intSl (ty : Ty) (t : TypeId) : Option (IntKind × Nat) := (ty t).bind fun i => match i.kind with
  | .slice el => (ty el).bind fun ei => match ei.kind with
    | .int k => if 1 ≤ ei.bytes then some (k, ei.bytes) else none
    | _ => none
  | _ => none
def layAt (k : IntKind) (c : Ct) (lo : Nat) (l : List Int) : Option Ct := match c with
  | .ints k' l0 => if k' = k then some (.ints k (l0.take lo ++ l ++ l0.drop (lo + l.length))) else none
  | .vals l0 => some (.vals (l0.take lo ++ l.map (.int k) ++ l0.drop (lo + l.length)))
structure Sp where
  pre : Prop
  av : AV
  env : List (Nat × AV)
  key : Nat
  ct : Ct
def spAppend (ty : Ty) (env : List (Nat × AV)) (mem : List (Nat × Ct × Bool)) (d : Nat) (x y : Operand) (t : TypeId) : Option Sp :=
  (intSl ty t).bind fun kb => (yInts ⟨lk env, lk mem⟩ kb.1 (opd ⟨lk env, lk mem⟩ y)).bind fun l' => match opd ⟨lk env, lk mem⟩ x with
    | .v (.slice none 0 0) => match lk mem (16 * d) with
      | none => some ⟨l'.length * kb.2 ≤ 140737488355328, .ow (16 * d), env, 16 * d, .ints kb.1 l'⟩
      | some _ => none
    | .ow key => match lk mem key with
      | some (.ints k2 l, false) => if k2 = kb.1 then some ⟨(l.length + l'.length) * kb.2 ≤ 140737488355328, .ow key, killE key env, key, .ints kb.1 (l ++ l')⟩ else none
      | _ => none
    | _ => none
def spCopy (ty : Ty) (env : List (Nat × AV)) (mem : List (Nat × Ct × Bool)) (d : Nat) (x y : Operand) (t : TypeId) : Option Sp :=
  (intSl ty t).bind fun kb => (yInts ⟨lk env, lk mem⟩ kb.1 (opd ⟨lk env, lk mem⟩ y)).bind fun l' => match opd ⟨lk env, lk mem⟩ x with
    | .ow key => match lk mem key with
      | some (c, false) => (layAt kb.1 c 0 (l'.take c.len)).map fun c' => ⟨True, .v (.int .i64 (min l'.length c.len : Nat)), env, key, c'⟩
      | _ => none
    | .al key lo n => match lk mem key with
      | some (c, false) => (layAt kb.1 c lo (l'.take n)).map fun c' => ⟨True, .v (.int .i64 (min l'.length n : Nat)), env, key, c'⟩
      | _ => none
    | _ => none
def aSp (ty : Ty) (env : List (Nat × AV)) (mem : List (Nat × Ct × Bool)) (d : Nat) (op : Op) : Option Sp := match op with
  | .call ⟨.builtin .append, ⟨[x, y]⟩, ⟨[t, t']⟩⟩ => if t = t' then spAppend ty env mem d x y t else none
  | .call ⟨.builtin .copy, ⟨[x, y]⟩, ⟨[t, _]⟩⟩ => spCopy ty env mem d x y t
  | _ => none
end Go.AM
namespace Go.AM
variable [Lay]
open Go.RowKit (Below)
variable {P : Program} {V : Nat → Prop} {β : Nat → Option Nat} {w0 w w' : World} {N : Nat} {e : Env} {m : Mem} {a : Act}
variable {ty : Ty} {Γ : Gam} {d : Option Tmp} {tt : TypeId} {pos : String} {after : Array Edge} {g : Option (Nat × Bool)}
theorem Ext.trans {w1 w2 w3 : World} (h : Ext w1 w2) (h' : Ext w2 w3) : Ext w1 w3 :=
  ⟨h'.os.trans h.os, h'.tape.trans h.tape, h'.output.trans h.output, Nat.le_trans h.size h'.size, fun k hk => (h'.block k (Nat.lt_of_lt_of_le hk h.size)).trans (h.block k hk)⟩
theorem intSl_ok (hty : TysOk P ty) {t : TypeId} {kb : IntKind × Nat} (h : intSl ty t = some kb) : ∃ el ei q z, P.underlying t = some (.slice el) ∧ TyOk P el ei ∧ ei.kind = .int kb.1 ∧ P.info? el = some q ∧ q.size = 1 ∧ q.bytes = kb.2 ∧ q.zero = some z ∧ z.cells.toList = [.int kb.1 0] ∧ 1 ≤ kb.2 := by
  unfold intSl at h
  obtain ⟨i, hi, h⟩ := Option.bind_eq_some_iff.1 h
  split at h
  · rename_i el hk
    obtain ⟨ei, hei, h⟩ := Option.bind_eq_some_iff.1 h
    split at h
    · rename_i k hki
      split at h
      case isFalse => cases h
      rename_i hb1
      cases h
      have h1 := (hty _ _ hi).kind
      rw [hk] at h1
      have hel := hty _ _ hei
      have h2 := hel.kind
      rw [hki] at h2
      obtain ⟨q, h3, h4, h5, z, h6, h7⟩ := hel.info
      exact ⟨el, ei, q, z, h1.1, hel, hki, h3, by rw [h4, h2.2.2.2], h5, h6, by rw [h7, h2.2.2.1], hb1⟩
    · cases h
  · cases h
theorem run_app_op (w : World) {x y : Operand} {t : TypeId} {v : Value} {w' : World} (h : (Builtin.append_ #[t, t] tt #[a.eval x, a.eval y]).run P w = .ok v w') :
    (execOp a.eval ⟨d, .call ⟨.builtin .append, #[x, y], #[t, t]⟩, tt, pos, after, g⟩).run P w = .ok (.value v) w' := by
  simp [execOp, resolve, invoke, builtin, h, Result.andThen]
theorem run_copy_op (w : World) {x y : Operand} {t t' : TypeId} {v : Value} {w' : World} (h : (Builtin.copy_ #[t, t'] tt #[a.eval x, a.eval y]).run P w = .ok v w') :
    (execOp a.eval ⟨d, .call ⟨.builtin .copy, #[x, y], #[t, t']⟩, tt, pos, after, g⟩).run P w = .ok (.value v) w' := by
  simp [execOp, resolve, invoke, builtin, h, Result.andThen]
theorem lk_cons_fun {key : Nat} {c : Ct} {mem : List (Nat × Ct × Bool)} : lk ((key, c, false) :: mem) = fun k => if k = key then some (c, false) else lk mem k := by funext k; rfl
theorem RepB.regrowNew {env : List (Nat × AV)} (h : RepB V β w0 N (lk env) m a w) {key nb : Nat} {c' : Ct} {arr : Array Value} {T : TypeId} {rest : List Value} (hm : m key = none) (hbelow : Below w0.heap.size w0 w') (hx : Ext w w')
    (hnb : w'.heap[nb]? = some (.cells arr T (0, 0))) (harr : arr.toList = c'.cells ++ rest) (hok : Oc c'.cells = true) (hB : w.heap.size ≤ nb) :
    RepB V (addβ [(key, c', some nb)] β) w0 N (lk env) (fun k => if k = key then some (c', false) else m k) a w' := by
  rw [← adds_one key c' (some nb)]
  refine h.adds hx _ ?_ ?_ ?_
  · intro k x hx
    simp only [lk] at hx
    split at hx
    · rename_i hkk; subst hkk; exact hm
    · cases hx
  · intro k c1 bo hx
    simp only [lk] at hx
    split at hx
    · simp only [Option.some.injEq, Prod.mk.injEq] at hx
      obtain ⟨rfl, rfl⟩ := hx
      exact ⟨hok, .inr ⟨nb, arr, T, rest, rfl, hB, hnb, harr⟩⟩
    · cases hx
  · intro k k' c c' b hl hl'
    simp only [lk] at hl hl'
    split at hl
    · split at hl'
      · rename_i e1 e2; rw [e1, e2]
      · cases hl'
    · cases hl
theorem okCells_one {k : IntKind} {l : List Int} : ∀ u ∈ l.map (Value.int k), u.oneCell' = true := fun u hu => okCells_mem (okCells_ints k l) u (by simpa [Ct.cells] using hu)
theorem size_zc (z : Array Value) (n : Nat) : (Builtin.zeroCells z n).size = n * z.size := by simp [Builtin.zeroCells]
theorem RepB.kill {env : List (Nat × AV)} (h : RepB V β w0 N (lk env) m a w) (key : Nat) : RepB V β w0 N (lk (killE key env)) m a w :=
  ⟨h.fresh, h.below, h.size, h.defers, h.mem, h.inj, fun t av ht => by
    rw [lk_killE] at ht
    obtain ⟨av0, h1, rfl⟩ := Option.map_eq_some_iff.1 ht
    obtain ⟨v, hv, hr⟩ := h.slots t av0 h1
    refine ⟨v, hv, ?_⟩
    cases hn : namesT key av0 with
    | true => rw [if_pos rfl]; trivial
    | false => rw [if_neg (by simp)]; exact hr⟩
theorem spAppend_ok (hty : TysOk P ty) {env : List (Nat × AV)} {mem : List (Nat × Ct × Bool)} (h : RepB V β w0 N (lk env) (lk mem) a w) {dd : Nat} {x y : Operand} {t : TypeId} {o : Sp} (hs : spAppend ty env mem dd x y t = some o) (hp : o.pre) :
    ∃ v w' β', (execOp a.eval ⟨d, .call ⟨.builtin .append, #[x, y], #[t, t]⟩, tt, pos, after, g⟩).run P w = .ok (.value v) w' ∧ RepB V β' w0 N (lk o.env) (lk ((o.key, o.ct, false) :: mem)) a w' ∧ RepA V β' (lk ((o.key, o.ct, false) :: mem)) w' o.av v := by
  unfold spAppend at hs
  obtain ⟨⟨k, bytes⟩, hkb, hs⟩ := Option.bind_eq_some_iff.1 hs
  obtain ⟨el, ei, q, z, hu, hel, hki, hq, hq1, hqb, hz, hzc, hb1⟩ := intSl_ok hty hkb
  simp only at hki hqb hzc hb1 hs
  obtain ⟨l', hl', hs⟩ := Option.bind_eq_some_iff.1 hs
  obtain ⟨A, cap', hyv, hcap', hcell⟩ := yInts_ok h hl'
  have hzsize : z.cells.size = 1 := by rw [← Array.length_toList, hzc]; rfl
  have hge : ∀ need old, need ≤ grownCap w need old el := fun need old => grownCap_ge w need old el
  split at hs
  · -- onto nil
    rename_i hx
    split at hs
    · rename_i hfree
      cases hs
      simp only at hp ⊢
      have hxv : a.eval x = .slice none 0 0 := opd_v h hx
      by_cases hl0 : l' = []
      · subst hl0
        refine ⟨.slice none 0 0, w, addβ [(16 * dd, .ints k [], none)] β, ?_, ?_, ?_⟩
        · refine run_app_op w ?_
          rw [hxv, hyv]
          exact run_app_zero w t tt el q hu hq hq1 none A 0 0 cap' (Nat.le_refl _)
        · rw [lk_cons_fun, ← adds_one (16 * dd) (.ints k []) none]
          refine h.adds (Ext.refl w) _ (fun k0 x0 hx0 => ?_) (fun k0 c1 bo hx0 => ?_) (fun k0 k' c c' b hl hl' => ?_)
          · simp only [lk] at hx0
            split at hx0
            · rename_i hkk; subst hkk; exact hfree
            · cases hx0
          · simp only [lk] at hx0
            split at hx0
            · cases hx0; exact ⟨rfl, .inl ⟨rfl, rfl⟩⟩
            · cases hx0
          · simp only [lk] at hl
            split at hl <;> cases hl
        · refine ⟨.ints k [], false, 0, by simp [lk], ⟨Nat.zero_le _, fun b _ => Nat.zero_le _⟩, Nat.le_refl _, .inl ⟨by simp [addβ, lk], rfl, rfl⟩⟩
      · obtain ⟨ad, rfl, hcells⟩ := hcell hl0
        have hpos : 0 < l'.length := List.length_pos_iff.2 hl0
        have hmul : l'.length ≤ l'.length * bytes := Nat.le_mul_of_pos_right _ hb1
        have hrun := run_append_nil (P := P) w t tt el q z hu hq hz ad l'.length cap' (l'.map (.int k)) (by simp [hq1]) hcells hpos (by omega) (by rw [hqb]; omega)
        have hB := h.regrowNew (w' := w.drew.alloc (.cells ((l'.map (Value.int k)).toArray ++ Builtin.zeroCells z.cells (grownCap w l'.length 0 el - l'.length)) el)) (key := 16 * dd) (nb := w.heap.size) (c' := .ints k l') (T := el)
          (arr := (l'.map (Value.int k)).toArray ++ Builtin.zeroCells z.cells (grownCap w l'.length 0 el - l'.length)) (rest := (Builtin.zeroCells z.cells (grownCap w l'.length 0 el - l'.length)).toList) hfree
          (((Ext.drew w).trans (Ext.alloc _ _)).below h.below) ((Ext.drew w).trans (Ext.alloc _ _)) (heap_alloc_new w.drew _) (by simp [Ct.cells]) (okCells_ints _ _) (Nat.le_refl _)
        refine ⟨_, _, _, run_app_op w (by rw [hxv, hyv]; exact hrun), by rw [lk_cons_fun]; exact hB, ?_⟩
        refine ⟨.ints k l', false, grownCap w l'.length 0 el, by simp [lk], ⟨grownCap_le_maxLen w _ _ _ (by simp only [maxLen]; omega), fun b hb => ?_⟩, hge _ _, .inr ⟨w.heap.size, addβ_one _ _ _, rfl⟩⟩
        rw [addβ_one] at hb
        cases hb
        unfold bsz
        rw [show (w.drew.alloc (.cells ((l'.map (Value.int k)).toArray ++ Builtin.zeroCells z.cells (grownCap w l'.length 0 el - l'.length)) el)).heap[w.heap.size]? = _ from heap_alloc_new w.drew _]
        have := hge l'.length 0
        simp [size_zc, hzsize]
        omega
    · cases hs
  · -- onto a slice of the call's own
    rename_i key hx
    split at hs
    · rename_i k2 l hmk
      split at hs
      · rename_i hk2
        subst hk2
        cases hs
        simp only at hp ⊢
        obtain ⟨c, fr, cap, hk, hc2, hc1, h4⟩ := opd_ow h hx
        rw [hmk] at hk; cases hk
        have hlen : (Ct.ints k2 l).len = l.length := rfl
        rw [hlen] at hc1
        have hmul : l.length + l'.length ≤ (l.length + l'.length) * bytes := Nat.le_mul_of_pos_right _ hb1
        -- the block is another
        have grow : ∀ (arr : Array Value) (cap2 : Nat), arr.toList = (l ++ l').map (Value.int k2) ++ arr.toList.drop (l ++ l').length → (l ++ l').length ≤ cap2 → cap2 ≤ maxLen → cap2 ≤ arr.size →
            (Builtin.append_ #[t, t] tt #[a.eval x, a.eval y]).run P w = .ok (.slice (some ⟨w.heap.size, 0, none⟩) (l.length + l'.length) cap2) (w.drew.alloc (.cells arr el)) →
            ∃ v w' β', (execOp a.eval ⟨d, .call ⟨.builtin .append, #[x, y], #[t, t]⟩, tt, pos, after, g⟩).run P w = .ok (.value v) w' ∧ RepB V β' w0 N (lk (killE key env)) (lk ((key, .ints k2 (l ++ l'), false) :: mem)) a w' ∧ RepA V β' (lk ((key, .ints k2 (l ++ l'), false) :: mem)) w' (.ow key) v := by
          intro arr cap2 harr h1 h2 h3 hrun
          have hnb : (w.drew.alloc (.cells arr el)).heap[w.heap.size]? = some (.cells arr el (0, 0)) := heap_alloc_new w.drew _
          have hext : Ext w (w.drew.alloc (.cells arr el)) := (Ext.drew w).trans (Ext.alloc _ _)
          have hB := h.regrow (w' := w.drew.alloc (.cells arr el)) (key := key) (nb := w.heap.size) (c' := .ints k2 (l ++ l')) (T := el) (hext.below h.below) hext.size (fun j hj _ => hext.block j hj) hnb harr (okCells_ints _ _) h.below.size (.inl (Nat.le_refl _))
          refine ⟨_, _, _, run_app_op w hrun, by rw [lk_cons_fun]; exact hB, .ints k2 (l ++ l'), false, cap2, by simp [lk], ⟨h2, fun b hb => ?_⟩, h1, .inr ⟨w.heap.size, by simp, by simp [Ct.len]⟩⟩
          simp only [if_true, Option.some.injEq] at hb
          subst hb
          unfold bsz
          rw [hnb]
          simpa using h3
        -- nothing is added
        have same : l' = [] → ∃ v w' β', (execOp a.eval ⟨d, .call ⟨.builtin .append, #[x, y], #[t, t]⟩, tt, pos, after, g⟩).run P w = .ok (.value v) w' ∧ RepB V β' w0 N (lk (killE key env)) (lk ((key, .ints k2 (l ++ l'), false) :: mem)) a w' ∧ RepA V β' (lk ((key, .ints k2 (l ++ l'), false) :: mem)) w' (.ow key) v := by
          intro hl0
          subst hl0
          have hm' : lk ((key, Ct.ints k2 (l ++ []), false) :: mem) = lk mem := by
            funext j; simp only [lk]; split
            · rename_i hj; rw [hj, hmk, List.append_nil]
            · rfl
          rw [hm']
          have hxv : ∃ A cap3, a.eval x = .slice A l.length cap3 ∧ l.length ≤ cap3 := by
            rcases h4 with ⟨_, h0, hv⟩ | ⟨b, _, hv⟩
            · have hln : l.length = 0 := h0
              exact ⟨none, 0, by rw [hv, hln], by omega⟩
            · exact ⟨_, cap, hv, hc1⟩
          obtain ⟨A2, cap3, hxv, hc3⟩ := hxv
          refine ⟨a.eval x, w, β, run_app_op w ?_, h.kill key, ?_⟩
          · rw [hyv]
            rw [hxv]
            exact run_app_zero w t tt el q hu hq hq1 A2 A l.length cap3 cap' hc3
          · have := h.opd x
            rw [hx] at this
            exact this
        by_cases hl0 : l' = []
        · exact same hl0
        · obtain ⟨ad, rfl, hcells⟩ := hcell hl0
          have hpos : 0 < l'.length := List.length_pos_iff.2 hl0
          rcases h4 with ⟨hbn, h0, hxv⟩ | ⟨b, hb, hxv⟩
          · have hlnil : l = [] := List.length_eq_zero_iff.1 h0
            subst hlnil
            have hrun := run_append_nil (P := P) w t tt el q z hu hq hz ad l'.length cap' (l'.map (.int k2)) (by simp [hq1]) hcells hpos (by simp at hmul hp; omega) (by rw [hqb]; simp at hp; omega)
            refine grow ((l'.map (Value.int k2)).toArray ++ Builtin.zeroCells z.cells (grownCap w l'.length 0 el - l'.length)) (grownCap w l'.length 0 el) ?_ (by simpa using hge _ _) (grownCap_le_maxLen w _ _ _ (by simp at hmul hp; simp only [maxLen]; omega)) ?_ (by rw [hxv, hyv]; simpa using hrun)
            · simp
            · have := hge l'.length 0
              simp [size_zc, hzsize]
              omega
          · rcases (h.mem key _ _ hmk).2 with ⟨hbad, _⟩ | ⟨b', arr, T, rest, hb', hB, hh, harr⟩
            · rw [hb] at hbad; cases hbad
            · rw [hb] at hb'; cases hb'
              have hcells0 : ∀ j u, (l.map (Value.int k2))[j]? = some u → w.cell? ((⟨b, 0, none⟩ : Addr).add j) = some u := fun j u hu => by
                have hj : j < (l.map (Value.int k2)).length := (List.getElem?_eq_some_iff.1 hu).1
                rw [Addr.add_plain, Nat.zero_add]
                exact h.cell hmk hb (by simpa [Ct.cells] using hu)
              have hasz : cap ≤ arr.size := by
                have := hc2.2 b hb
                unfold bsz at this
                rw [hh] at this
                simpa using this
              by_cases hroom : l.length + l'.length ≤ cap
              · have hrun := run_app_room (P := P) w t tt el q hu hq hq1 b l.length cap arr T hh ad l'.length cap' (l'.map (.int k2)) (by simp) hcells okCells_one hroom (by omega)
                let arr' := (arr.toList.take l.length ++ l'.map (Value.int k2) ++ arr.toList.drop (l.length + l'.length)).toArray
                have hlarr : arr.toList.length = arr.size := Array.length_toList
                have harr' : arr'.toList = (Ct.ints k2 (l ++ l')).cells ++ arr.toList.drop (l.length + l'.length) := by
                  have : arr.toList.take l.length = l.map (Value.int k2) := by rw [harr]; simp [Ct.cells]
                  simp only [arr', this, Ct.cells, List.map_append]
                have hnb : (w.setRow b arr').heap[b]? = some (.cells arr' T (0, 0)) := setRow_heap w b arr arr' T (0, 0) hh
                have hsz : arr'.size = arr.size := by
                  simp only [arr', List.size_toArray, List.length_append, List.length_take, List.length_map, List.length_drop, hlarr]
                  omega
                have hbel : Below w0.heap.size w0 (w.setRow b arr') := h.below.trans ⟨rfl, rfl, rfl, by simp, fun j hj => setRow_other w b j arr' (by omega)⟩
                have hBB := h.regrow (w' := w.setRow b arr') (key := key) (nb := b) (c' := .ints k2 (l ++ l')) (T := T) hbel (by simp) (fun j _ hne => setRow_other w b j arr' hne) hnb harr' (okCells_ints _ _) hB (.inr ⟨hb, _, hmk⟩)
                refine ⟨_, _, _, run_app_op w (by rw [hxv, hyv]; exact hrun), by rw [lk_cons_fun]; exact hBB, .ints k2 (l ++ l'), false, cap, by simp [lk], ⟨hc2.1, fun b2 hb2 => ?_⟩, by simpa [Ct.len] using hroom, .inr ⟨b, by simp, by simp [Ct.len]⟩⟩
                simp only [if_true, Option.some.injEq] at hb2
                subst hb2
                unfold bsz
                rw [hnb]
                simp only
                omega
              · have hrun := run_append_grow (P := P) w t tt el q z hu hq hz ⟨b, 0, none⟩ l.length cap (l.map (.int k2)) (by simp [hq1]) hcells0 ad l'.length cap' (l'.map (.int k2)) (by simp [hq1]) hcells (by omega) (by omega) (growslice_fits (by omega) (by rw [hqb]; exact hp))
                refine grow _ (grownCap w (l.length + l'.length) cap el) ?_ (by simpa using hge _ _) (grownCap_le_maxLen w _ _ _ (by simp only [maxLen]; omega)) ?_ (by rw [hxv, hyv]; exact hrun)
                · have : ∀ (p r : List Value), p ++ r = p ++ (p ++ r).drop p.length := fun p r => by simp
                  have h2 := this ((l ++ l').map (Value.int k2)) (Builtin.zeroCells z.cells (grownCap w (l.length + l'.length) cap el - (l.length + l'.length))).toList
                  simpa [List.append_assoc] using h2
                · have := hge (l.length + l'.length) cap
                  simp [size_zc, hzsize]
                  omega
      · cases hs
    · cases hs
  · cases hs
end Go.AM
namespace Go.AM
variable [Lay]
open Go.RowKit (Below)
variable {P : Program} {V : Nat → Prop} {β : Nat → Option Nat} {w0 w w' : World} {N : Nat} {e : Env} {m : Mem} {a : Act}
variable {ty : Ty} {Γ : Gam} {d : Option Tmp} {tt : TypeId} {pos : String} {after : Array Edge} {g : Option (Nat × Bool)}
theorem layAt_ok {k : IntKind} {c c' : Ct} {lo : Nat} {l : List Int} (h : layAt k c lo l = some c') (hok : Oc c.cells = true) (hfit : lo + l.length ≤ c.len) :
    c'.cells = c.cells.take lo ++ l.map (Value.int k) ++ c.cells.drop (lo + l.length) ∧ c'.len = c.len ∧ Oc c'.cells = true := by
  have hcells : c'.cells = c.cells.take lo ++ l.map (Value.int k) ++ c.cells.drop (lo + l.length) := by
    cases c with
    | ints k' l0 =>
      simp only [layAt] at h
      split at h
      · rename_i hk; subst hk; cases h; simp [Ct.cells, List.map_take, List.map_drop]
      · cases h
    | vals l0 => simp only [layAt] at h; cases h; simp [Ct.cells]
  refine ⟨hcells, ?_, ?_⟩
  · rw [← Ct.length_cells, ← Ct.length_cells, hcells]
    have := Ct.length_cells c
    simp
    omega
  · rw [hcells]
    refine okCells_of fun v hv => ?_
    simp only [List.mem_append] at hv
    rcases hv with (hv | hv) | hv
    · exact okCells_mem hok v (List.mem_of_mem_take hv)
    · exact okCells_one v hv
    · exact okCells_mem hok v (List.mem_of_mem_drop hv)
theorem goInt_eq (n : Nat) : goInt n = .int .i64 (n : Int) := rfl
theorem copy_core (hty : TysOk P ty) (h : RepB V β w0 N e m a w) {t t' : TypeId} {k : IntKind} {bytes : Nat} (hkb : intSl ty t = some (k, bytes)) {x y : Operand} {l' : List Int} (hl' : yInts ⟨e, m⟩ k (opd ⟨e, m⟩ y) = some l')
    {key lo n cap : Nat} {A : Option Addr} {c c' : Ct} (hmk : m key = some (c, false)) (hxv : a.eval x = .slice A n cap) (hfit : lo + n ≤ c.len) (hA : 0 < n → ∃ b, β key = some b ∧ A = some ⟨b, lo, none⟩) (hlay : layAt k c lo (l'.take n) = some c') :
    ∃ v w', (execOp a.eval ⟨d, .call ⟨.builtin .copy, #[x, y], #[t, t']⟩, tt, pos, after, g⟩).run P w = .ok (.value v) w' ∧ RepB V β w0 N e (fun j => if j = key then some (c', false) else m j) a w' ∧ v = .int .i64 (min l'.length n : Nat) := by
  obtain ⟨el, ei, q, z, hu, hel, hki, hq, hq1, hqb, hz, hzc, hb1⟩ := intSl_ok hty hkb
  obtain ⟨B, cap', hyv, hcap', hcell⟩ := yInts_ok h hl'
  have hok := (h.mem key c false hmk).1
  have htl : (l'.take n).length = min n l'.length := by simp
  obtain ⟨hcs, hlen, hok'⟩ := layAt_ok hlay hok (by rw [htl]; omega)
  by_cases h0 : min l'.length n = 0
  · have hnil : l'.take n = [] := List.length_eq_zero_iff.1 (by rw [htl]; omega)
    have hrun := run_copy_none (P := P) w t t' tt el A B n cap l'.length cap' hu (by rw [hq]; simp [hq1]) h0
    refine ⟨_, w, run_copy_op w (by rw [hxv, hyv]; exact hrun), ?_, by rw [h0]; rfl⟩
    have hcc : c' = c := by
      rw [hnil] at hlay
      cases c with
      | ints k' l0 =>
        simp only [layAt] at hlay
        split at hlay
        · rename_i hk; subst hk; cases hlay; simp
        · cases hlay
      | vals l0 => simp only [layAt] at hlay; cases hlay; simp
    have : (fun j => if j = key then some (c', false) else m j) = m := by
      funext j; split
      · rename_i hj; rw [hj, hmk, hcc]
      · rfl
    rw [this]; exact h
  · obtain ⟨b, hb, rfl⟩ := hA (by omega)
    have hl0 : l' ≠ [] := fun h => by subst h; simp at h0
    obtain ⟨ad, rfl, hcells⟩ := hcell hl0
    rcases (h.mem key c false hmk).2 with ⟨hbad, _⟩ | ⟨b', arr, T, rest, hb', hB, hh, harr⟩
    · rw [hb] at hbad; cases hbad
    · rw [hb] at hb'; cases hb'
      have hasz : arr.size = c.len + rest.length := by rw [← Array.length_toList, harr, List.length_append, Ct.length_cells]
      have hnl : ((l'.take n).map (Value.int k)).length = Nat.min l'.length n := by simp [Nat.min_comm]
      have hrun := run_copy_row (P := P) w t t' tt el b lo n cap ad l'.length cap' arr T ((l'.take n).map (.int k)) hu (by rw [hq]; simp [hq1]) hh hnl (fun j v hv => hcells j v (by
        rw [List.getElem?_map, List.getElem?_take] at hv
        rw [List.getElem?_map]
        split at hv
        · exact hv
        · cases hv)) (by rw [List.length_map, htl]; omega) okCells_one
      refine ⟨_, _, run_copy_op w (by rw [hxv, hyv]; exact hrun), h.store hmk hb hB hh hlen hok' (rest := rest) ?_ ?_, ?_⟩
      · have hcl := Ct.length_cells c
        simp only [harr, hcs, List.length_map, htl]
        rw [List.take_append_of_le_length (by omega), List.drop_append_of_le_length (by omega)]
        simp
      · simp only [List.size_toArray, List.length_append, List.length_take, List.length_map, List.length_drop, Array.length_toList, htl]
        omega
      · rw [goInt_eq, List.length_map, htl, Nat.min_comm]
theorem spCopy_ok (hty : TysOk P ty) {env : List (Nat × AV)} {mem : List (Nat × Ct × Bool)} (h : RepB V β w0 N (lk env) (lk mem) a w) {dd : Nat} {x y : Operand} {t t' : TypeId} {o : Sp} (hs : spCopy ty env mem dd x y t = some o) :
    ∃ v w' β', (execOp a.eval ⟨d, .call ⟨.builtin .copy, #[x, y], #[t, t']⟩, tt, pos, after, g⟩).run P w = .ok (.value v) w' ∧ RepB V β' w0 N (lk o.env) (lk ((o.key, o.ct, false) :: mem)) a w' ∧ RepA V β' (lk ((o.key, o.ct, false) :: mem)) w' o.av v := by
  unfold spCopy at hs
  obtain ⟨⟨k, bytes⟩, hkb, hs⟩ := Option.bind_eq_some_iff.1 hs
  obtain ⟨l', hl', hs⟩ := Option.bind_eq_some_iff.1 hs
  split at hs
  · rename_i key hx
    split at hs
    · rename_i c hmk
      obtain ⟨c', hlay, rfl⟩ := Option.map_eq_some_iff.1 hs
      obtain ⟨c2, fr, cap, hk, hc2, hc1, h4⟩ := opd_ow h hx
      rw [hmk] at hk; cases hk
      have hxv : ∃ A cap3, a.eval x = .slice A c.len cap3 ∧ (0 < c.len → ∃ b, β key = some b ∧ A = some ⟨b, 0, none⟩) := by
        rcases h4 with ⟨_, h0, hv⟩ | ⟨b, hb, hv⟩
        · exact ⟨none, 0, by rw [hv, h0], fun hp => by omega⟩
        · exact ⟨_, cap, hv, fun _ => ⟨b, hb, rfl⟩⟩
      obtain ⟨A, cap3, hxv, hA⟩ := hxv
      obtain ⟨v, w', h5, h6, h7⟩ := copy_core (d := d) (tt := tt) (pos := pos) (after := after) (g := g) (t' := t') hty h hkb hl' hmk hxv (by omega) hA hlay
      exact ⟨v, w', β, h5, by rw [lk_cons_fun]; exact h6, h7⟩
    · cases hs
  · rename_i key lo n hx
    split at hs
    · rename_i c hmk
      obtain ⟨c', hlay, rfl⟩ := Option.map_eq_some_iff.1 hs
      obtain ⟨⟨c2, fr, hk, hle⟩, A, cap, hxv, hc1, hc2, h4⟩ := opd_al h hx
      rw [hmk] at hk; cases hk
      have hA : 0 < n → ∃ b, β key = some b ∧ A = some ⟨b, lo, none⟩ := fun hp => by
        rcases h4 (.inl hp) with ⟨_, _, h0, _⟩ | h5
        · omega
        · exact h5
      obtain ⟨v, w', h5, h6, h7⟩ := copy_core (d := d) (tt := tt) (pos := pos) (after := after) (g := g) (t' := t') hty h hkb hl' hmk hxv hle hA hlay
      exact ⟨v, w', β, h5, by rw [lk_cons_fun]; exact h6, h7⟩
    · cases hs
  · cases hs
theorem sp_ok (hty : TysOk P ty) {env : List (Nat × AV)} {mem : List (Nat × Ct × Bool)} {op : Op} (h : RepB V β w0 N (lk env) (lk mem) a w) {dd : Nat} {o : Sp} (hs : aSp ty env mem dd op = some o) (hp : o.pre) :
    ∃ v w' β', (execOp a.eval ⟨d, op, tt, pos, after, g⟩).run P w = .ok (.value v) w' ∧ RepB V β' w0 N (lk o.env) (lk ((o.key, o.ct, false) :: mem)) a w' ∧ RepA V β' (lk ((o.key, o.ct, false) :: mem)) w' o.av v := by
  unfold aSp at hs
  split at hs
  · split at hs
    · rename_i he
      subst he
      exact spAppend_ok hty h hs hp
    · cases hs
  · exact spCopy_ok hty h hs
  · cases hs
end Go.AM
namespace Go.AM
variable [Lay]
def bindP (o : Option Sp) (k : Sp → Prop) : Prop := match o with
  | some s => Chk s.pre (k s)
  | none => False
def aOne (ty : Ty) (Γ : Gam) (o : Oper) (env : List (Nat × AV)) (mem : List (Nat × Ct × Bool)) (k : List (Nat × AV) → List (Nat × Ct × Bool) → Prop) : Prop :=
  match o.dst, o.op with
  | some d, op => if isSp op = true then bindP (aSp ty env mem d op) fun s => k ((d, s.av) :: s.env) ((s.key, s.ct, false) :: mem) else bindO (aStep ty Γ ⟨lk env, lk mem⟩ d op) fun a m => Chk (Fr (lk mem) d m) (k ((d, a) :: env) (m ++ mem))
  | none, .store t x y => bindS (aStore ty ⟨lk env, lk mem⟩ t x y) fun key c => k env ((key, c, false) :: mem)
  | none, _ => False
def awpOps (ty : Ty) (Γ : Gam) (all : List Oper) (K : List (Nat × AV) → List (Nat × Ct × Bool) → Prop) : List Oper → List (Nat × AV) → List (Nat × Ct × Bool) → Prop
  | [], env, mem => K env mem
  | o :: r, env, mem => Bg (aGuard all ⟨lk env, lk mem⟩ o.guard)
      (aOne ty Γ o env mem (awpOps ty Γ all K r))
      (aOne ty Γ o (gset all o.guard true ++ env) mem (awpOps ty Γ all K r))
      (awpOps ty Γ all K r (skipE o.dst (gset all o.guard false ++ env)) mem)
      (awpOps ty Γ all K r (skipE o.dst env) mem)
def aCond (a : AV) (x y : Prop) : Prop :=
  match a with
  | .v (.bool c) => Brk c x y
  | _ => False
abbrev Post := Ex → List (Nat × AV) → List (Nat × Ct × Bool) → Prop
def Ent (env : List (Nat × AV)) (mem : List (Nat × Ct × Bool)) (env' : List (Nat × AV)) (mem' : List (Nat × Ct × Bool)) : Prop :=
  ∀ V w0 N a w, Rep V w0 N (lk env) (lk mem) a w → Rep V w0 N (lk env') (lk mem') a w
def thenP (f : List (Nat × AV) → List (Nat × Ct × Bool) → Prop) (Q : Post) : Post := fun e env mem => match e with
  | .normal => ∃ env0 mem0, Ent env mem env0 mem0 ∧ f env0 mem0
  | e => Q e env mem
def blockP (id : Nat) (Q : Post) : Post := fun e env mem => match e with
  | .exit j => if j = id then Q .normal env mem else Q (.exit j) env mem
  | e => Q e env mem
def loopP {ι : Type} (env : ι → List (Nat × AV)) (mem : ι → List (Nat × Ct × Bool)) (μ : ι → Nat) (i : ι) (Q : Post) : Post := fun e env' mem' => match e with
  | .normal => ∃ j, Ent env' mem' (env j) (mem j) ∧ μ j < μ i
  | e => Q e env' mem'
def edged (o : Oper) (j : Nat) : Bool := o.after.any fun e => Region.binds .any e && e.on == j
def tmpsOf (op : Op) : List Nat := op.operands.toList.filterMap fun | .tmp t => some t | _ => none
def looks (all : List Oper) (o : Oper) : List Nat := tmpsOf o.op ++ (match o.guard with | some (j, _) => ((all[j]?).bind (·.dst)).toList | none => [])
def slotD (ops : List Oper) (j : Nat) : Option Nat := (ops[j]?).bind (·.dst)
def looksAt (ops : List Oper) (j : Nat) : List Nat := ((ops[j]?).map (looks ops)).getD []
def hits (x : Option Nat) (l : List Nat) : Bool := match x with
  | some t => l.contains t
  | none => false
def meddle (ops : List Oper) (i j : Nat) : Bool := hits (slotD ops j) (looksAt ops i) || hits (slotD ops i) (looksAt ops j) || ((slotD ops i).isSome && slotD ops i == slotD ops j)
def isSt (o : Oper) : Bool := match o.op with
  | .store .. => true
  | _ => false
def isAs (o : Oper) : Bool := match o.op with
  | .assign _ => true
  | _ => false
def drawOp (ops : List Oper) (i : Nat) (o : Oper) : Bool :=
  (o.after.all fun e => !(Region.binds .any e) || decide (e.on < i)) && (o.dst.isSome || isSt o) &&
  ((List.range i).all fun j => !(meddle ops i j) || edged o j) &&
  (isAs o || o.dst.isNone || (List.range ops.length).all fun j => j == i || slotD ops j != o.dst)
def drawOk (ops : List Oper) : Bool := (List.range ops.length).all fun i => match ops[i]? with | some o => drawOp ops i o | none => true
def noFz : List (Nat × Ct × Bool) → Prop
  | [] => True
  | (_, _, fr) :: r => fr = false ∧ noFz r
def keyOn : AV → Option Nat
  | .ref key _ => some key
  | .ow key => some key
  | .al key _ _ => some key
  | .ows key _ => some key
  | _ => none
def keyAt (mem0 : List (Nat × Ct × Bool)) (t : Nat) (a : Option AV) : Bool := match a.bind keyOn with
  | none => true
  | some key => (lk mem0 key).isSome || key / 16 == t
def keysAt (mem0 : List (Nat × Ct × Bool)) (e : Env) : List Nat → Bool
  | [] => true
  | t :: r => keyAt mem0 t (e t) && keysAt mem0 e r
def rdKeys (e : Env) (l : List Nat) : List Nat := l.filterMap fun t => (e t).bind keyOn
def clash (wr : List (Nat × Nat)) (o : Oper) (ks : List Nat) : Bool := wr.all fun p => !(ks.contains p.2) || edged o p.1
def clashK (rd : List (Nat × Nat)) (o : Oper) (key : Nat) : Bool := rd.all fun p => p.2 != key || edged o p.1
abbrev NNs := List (Nat × Nat)
abbrev DK := NNs → NNs → List (Nat × AV) → List (Nat × Ct × Bool) → Prop
def dOne (ty : Ty) (Γ : Gam) (mem0 : List (Nat × Ct × Bool)) (i : Nat) (o : Oper) (rd wr : NNs) (env : List (Nat × AV)) (mem : List (Nat × Ct × Bool)) (k : DK) : Prop :=
  (keysAt mem0 (lk env) (tmpsOf o.op) && clash wr o (rdKeys (lk env) (tmpsOf o.op))) = true ∧
  match o.dst, o.op with
  | some d, op => bindO (aStep ty Γ ⟨lk env, lk mem⟩ d op) fun a m => Chk (Fr (lk mem) d m ∧ noFz m) (k ((rdKeys (lk env) (tmpsOf op)).map (fun x => (i, x)) ++ rd) wr ((d, a) :: env) (m ++ mem))
  | none, .store t x y => bindS (aStore ty ⟨lk env, lk mem⟩ t x y) fun key c => Chk (clashK rd o key = true) (k ((rdKeys (lk env) (tmpsOf o.op)).map (fun x => (i, x)) ++ rd) ((i, key) :: wr) env ((key, c, false) :: mem))
  | none, _ => False
def awpD (ty : Ty) (Γ : Gam) (all : List Oper) (mem0 : List (Nat × Ct × Bool)) (K : List (Nat × AV) → List (Nat × Ct × Bool) → Prop) : Nat → NNs → NNs → List Oper → List (Nat × AV) → List (Nat × Ct × Bool) → Prop
  | _, _, _, [], env, mem => K env mem
  | i, rd, wr, o :: r, env, mem => Bg (aGuard all ⟨lk env, lk mem⟩ o.guard)
      (dOne ty Γ mem0 i o rd wr env mem fun rd wr env mem => awpD ty Γ all mem0 K (i + 1) rd wr r env mem)
      (dOne ty Γ mem0 i o rd wr (gset all o.guard true ++ env) mem fun rd wr env mem => awpD ty Γ all mem0 K (i + 1) rd wr r env mem)
      (awpD ty Γ all mem0 K (i + 1) rd wr r (skipE o.dst (gset all o.guard false ++ env)) mem)
      (awpD ty Γ all mem0 K (i + 1) rd wr r (skipE o.dst env) mem)
def awp (ty : Ty) (Γ : Gam) : Code → Post → List (Nat × AV) → List (Nat × Ct × Bool) → Prop
  | .skip, Q, env, mem => Q .normal env mem
  | .ret, Q, env, mem => Q .ret env mem
  | .exit id, Q, env, mem => Q (.exit id) env mem
  | .seq a b, Q, env, mem => awp ty Γ a (thenP (awp ty Γ b Q) Q) env mem
  | .block id c, Q, env, mem => awp ty Γ c (blockP id Q) env mem
  | .cond x a b, Q, env, mem => aCond (opd ⟨lk env, lk mem⟩ x) (awp ty Γ a Q env mem) (awp ty Γ b Q env mem)
  | .region _ ops false, Q, env, mem => awpOps ty Γ ops.toList (Q .normal) ops.toList env mem
  | .region _ ops true, Q, env, mem => drawOk ops.toList = true ∧ awpD ty Γ ops.toList mem (Q .normal) 0 [] [] ops.toList env mem
  | .loop c, Q, env, mem => ∃ (ι : Type) (E : ι → List (Nat × AV)) (M : ι → List (Nat × Ct × Bool)) (μ : ι → Nat) (i0 : ι), Ent env mem (E i0) (M i0) ∧ ∀ i, awp ty Γ c (loopP E M μ i Q) (E i) (M i)
  | _, _, _, _ => False

section
variable {ty : Ty} {Γ : Gam} {Q : Post} {env env' : List (Nat × AV)} {mem mem' : List (Nat × Ct × Bool)}
theorem Chk_true (k : Prop) : Chk True k = k := by simp [Chk]
theorem Brk_true (a b : Prop) : Brk true a b = a := by simp [Brk]
theorem Brk_false (a b : Prop) : Brk false a b = b := by simp [Brk]
theorem Chk_congr {p p' k : Prop} (h : p = p') : Chk p k = Chk p' k := by rw [h]
theorem Brk_congr {c c' : Bool} {a b : Prop} (h : c = c') : Brk c a b = Brk c' a b := by rw [h]
theorem bindO_some (p : Prop) (a : AV) (m : List (Nat × Ct × Bool)) (k : AV → List (Nat × Ct × Bool) → Prop) : bindO (some ⟨p, a, m⟩) k = Chk p (k a m) := rfl
theorem bindO_congr {o o' : Option Out} {k : AV → List (Nat × Ct × Bool) → Prop} (h : o = o') : bindO o k = bindO o' k := by rw [h]
theorem bindS_some (key : Nat) (p : Prop) (c : Ct) (k : Nat → Ct → Prop) : bindS (some (key, p, c)) k = Chk p (k key c) := rfl
theorem bindS_congr {o o' : Option (Nat × Prop × Ct)} {k : Nat → Ct → Prop} (h : o = o') : bindS o k = bindS o' k := by rw [h]
theorem bindG_no (a b c d : Prop) : Bg .no a b c d = a := rfl
theorem bindG_off (a b c d : Prop) : Bg .off a b c d = d := rfl
theorem bindG_tt (t : Bool) (a b c d : Prop) : Bg (.tt t) a b c d = Brk t b c := rfl
theorem bindG_congr {g g' : GR} {a b c d : Prop} (h : g = g') : Bg g a b c d = Bg g' a b c d := by rw [h]
theorem awpOps_congr {all l : List Oper} {K : List (Nat × AV) → List (Nat × Ct × Bool) → Prop} (h : env = env') (h' : mem = mem') : awpOps ty Γ all K l env mem = awpOps ty Γ all K l env' mem' := by rw [h, h']
theorem aOne_congr {o : Oper} {k : List (Nat × AV) → List (Nat × Ct × Bool) → Prop} (h : env = env') (h' : mem = mem') : aOne ty Γ o env mem k = aOne ty Γ o env' mem' k := by rw [h, h']
theorem awp_congr {c : Code} (h : env = env') (h' : mem = mem') : awp ty Γ c Q env mem = awp ty Γ c Q env' mem' := by rw [h, h']
theorem aCond_congr {a a' : AV} {x y : Prop} (h : a = a') : aCond a x y = aCond a' x y := by rw [h]
theorem thenP_congr {f : List (Nat × AV) → List (Nat × Ct × Bool) → Prop} {e : Ex} (h : env = env') (h' : mem = mem') : thenP f Q e env mem = thenP f Q e env' mem' := by rw [h, h']
theorem blockP_congr {id : Nat} {e : Ex} (h : env = env') (h' : mem = mem') : blockP id Q e env mem = blockP id Q e env' mem' := by rw [h, h']
theorem Ent.refl (env : List (Nat × AV)) (mem : List (Nat × Ct × Bool)) : Ent env mem env mem := fun _ _ _ _ _ h => h
theorem ZL {f : List (Nat × AV) → List (Nat × Ct × Bool) → Prop} (h : f env mem) : thenP f Q .normal env mem := ⟨env, mem, Ent.refl env mem, h⟩
theorem Ent.trans {env'' : List (Nat × AV)} {mem'' : List (Nat × Ct × Bool)} (h : Ent env mem env' mem') (h' : Ent env' mem' env'' mem'') : Ent env mem env'' mem'' := fun V w0 N a w hr => h' V w0 N a w (h V w0 N a w hr)
theorem aCond_bool {c : Bool} {x y : Prop} : aCond (.v (.bool c)) x y = Brk c x y := rfl
theorem awpOps_nil {all : List Oper} {K : List (Nat × AV) → List (Nat × Ct × Bool) → Prop} : awpOps ty Γ all K [] env mem = K env mem := rfl
theorem aOne_dst {d : Nat} {op : Op} {t : TypeId} {pos : String} {after : Array Edge} {g : Option (Nat × Bool)} {k : List (Nat × AV) → List (Nat × Ct × Bool) → Prop} (h : isSp op = false) :
    aOne ty Γ ⟨some d, op, t, pos, after, g⟩ env mem k = bindO (aStep ty Γ ⟨lk env, lk mem⟩ d op) fun a m => Chk (Fr (lk mem) d m) (k ((d, a) :: env) (m ++ mem)) := if_neg (by simp [h])
theorem aOne_sp {d : Nat} {op : Op} {t : TypeId} {pos : String} {after : Array Edge} {g : Option (Nat × Bool)} {k : List (Nat × AV) → List (Nat × Ct × Bool) → Prop} (h : isSp op = true) :
    aOne ty Γ ⟨some d, op, t, pos, after, g⟩ env mem k = bindP (aSp ty env mem d op) fun s => k ((d, s.av) :: s.env) ((s.key, s.ct, false) :: mem) := if_pos h
theorem aOne_store {t t' : TypeId} {x y : Operand} {pos : String} {after : Array Edge} {g : Option (Nat × Bool)} {k : List (Nat × AV) → List (Nat × Ct × Bool) → Prop} :
    aOne ty Γ ⟨none, .store t' x y, t, pos, after, g⟩ env mem k = bindS (aStore ty ⟨lk env, lk mem⟩ t' x y) fun key c => k env ((key, c, false) :: mem) := rfl
theorem ZM {a b : Code} (h : ∀ K : List (Nat × AV) → List (Nat × Ct × Bool) → Prop, (∀ env mem, awp ty Γ b Q env mem → K env mem) → awp ty Γ a (thenP K Q) env mem) : awp ty Γ (.seq a b) Q env mem := h _ fun _ _ h => h
theorem ZS {id : Nat} {c : Code} (h : awp ty Γ c (blockP id Q) env mem) : awp ty Γ (.block id c) Q env mem := h
theorem ZT (h : Q .normal env mem) : awp ty Γ .skip Q env mem := h
theorem ZU (h : Q .ret env mem) : awp ty Γ .ret Q env mem := h
theorem ZV {id : Nat} (h : Q (.exit id) env mem) : awp ty Γ (.exit id) Q env mem := h
theorem ZQ {p k : Prop} (hp : p) (hk : k) : Chk p k := ⟨hp, hk⟩
theorem ZR {c : Bool} {a b : Prop} (ha : c = true → a) (hb : c = false → b) : Brk c a b := ⟨ha, hb⟩
end
end Go.AM
namespace Go.AM
variable [Lay]
open Go.RowKit (Below)
variable {P : Program} {V : Nat → Prop} {β : Nat → Option Nat} {w0 w w' : World} {N : Nat} {e : Env} {m : Mem} {a : Act}
variable {ty : Ty} {Γ : Gam} {env : List (Nat × AV)} {mem : List (Nat × Ct × Bool)}

theorem aOne_ok (hty : TysOk P ty) (hΓ : Gk P Γ) {o : Oper} {k : List (Nat × AV) → List (Nat × Ct × Bool) → Prop} (h : Rep V w0 N (lk env) (lk mem) a w) (hd : ∀ d, o.dst = some d → d < N) (ho : aOne ty Γ o env mem k)
    {next : Act → World → Prop} {Q : Exit → Act → World → Prop} (hk : ∀ env mem a w, k env mem → Rep V w0 N (lk env) (lk mem) a w → next a w) : o.wp P a w next Q := by
  obtain ⟨β, hb⟩ := h
  obtain ⟨dst, op, t, pos, after, g⟩ := o
  cases dst with
  | some d =>
    cases hsp : isSp op with
    | true =>
      rw [aOne_sp hsp] at ho
      unfold bindP at ho
      split at ho
      · rename_i s hs
        obtain ⟨hp, hkk⟩ := ho
        obtain ⟨v, w', β', hr, hb', hv⟩ := sp_ok (d := some d) (tt := t) (pos := pos) (after := after) (g := g) hty hb hs hp
        unfold Oper.wp
        rw [hr, Oper.upon_value]
        exact hk _ _ _ _ hkk ⟨β', hb'.put (hd d rfl) hv⟩
      · exact ho.elim
    | false =>
    rw [aOne_dst hsp] at ho
    unfold bindO at ho
    split at ho
    · rename_i out hs
      obtain ⟨hp, hf, hkk⟩ := ho
      refine step_ok (d := some d) (tt := t) (pos := pos) (after := after) (g := g) hb hty hΓ hs hp hf next Q fun v w' β' hb' hv => ?_
      exact hk _ _ _ _ hkk ⟨β', hb'.put (hd d rfl) hv⟩
    · exact ho.elim
  | none =>
    cases op <;> simp only [aOne] at ho
    case store t' x y =>
      unfold bindS at ho
      split at ho
      · rename_i key p c hs
        obtain ⟨hp, hkk⟩ := ho
        obtain ⟨w', hr, hb'⟩ := store_ok (d := none) (tt := t) (pos := pos) (after := after) (g := g) hb hty hs hp
        unfold Oper.wp
        rw [hr, Oper.upon_skip]
        exact hk _ _ _ _ hkk ⟨β, hb'⟩
      · exact ho.elim

theorem Rep.same (h : Rep V w0 N (lk env) m a w) {k : Nat} {av : AV} (hv : ∀ β, RepB V β w0 N (lk env) m a w → ∃ v, a.tmps[k]? = some v ∧ RepA V β m w av v) : Rep V w0 N (lk ((k, av) :: env)) m a w := by
  obtain ⟨β, hb⟩ := h
  refine ⟨β, hb.fresh, hb.below, hb.size, hb.defers, hb.mem, hb.inj, fun j av' he => ?_⟩
  rw [lk_cons] at he
  by_cases hj : j = k
  · subst hj
    simp only [if_true] at he
    cases he
    exact hv β hb
  · rw [if_neg hj] at he
    exact hb.slots j av' he
theorem Rep.putUndef (h : Rep V w0 N (lk env) m a w) {o : Oper} (hd : ∀ d, o.dst = some d → d < N) : Rep V w0 N (lk (skipE o.dst env)) m (a.put o.dst undef) w := by
  obtain ⟨β, hb⟩ := h
  cases hdst : o.dst with
  | none => exact ⟨β, hb⟩
  | some d => exact ⟨β, hb.put (av := .v undef) (v := undef) (hd d hdst) rfl⟩

theorem guard_ok (hty : TysOk P ty) (hΓ : Gk P Γ) {all : List Oper} {o : Oper} {env : List (Nat × AV)} {mem : List (Nat × Ct × Bool)} {a : Act} {w : World} {X X' Y Y' : Prop} (hr : Rep V w0 N (lk env) (lk mem) a w)
    {R : Prop} (h : Bg (aGuard all ⟨lk env, lk mem⟩ o.guard) X X' Y Y')
    (h1 : X → Region.wanted o (yielded all.toArray a.tmps) = true → R)
    (h2 : X' → Rep V w0 N (lk (gset all o.guard true ++ env)) (lk mem) a w → Region.wanted o (yielded all.toArray a.tmps) = true → R)
    (h3 : Y → Rep V w0 N (lk (gset all o.guard false ++ env)) (lk mem) a w → Region.wanted o (yielded all.toArray a.tmps) = false → R)
    (h4 : Y' → Region.wanted o (yielded all.toArray a.tmps) = false → R) : R := by
  cases hg : o.guard with
  | none =>
    simp only [hg, aGuard, Bg] at h
    exact h1 h (by simp [Region.wanted, hg])
  | some jb =>
    obtain ⟨j, b⟩ := jb
    simp only [hg, aGuard] at h h2 h3
    cases hsl : (all[j]?).bind (·.dst) with
    | none => simp only [hsl, Bg] at h
    | some sl =>
      simp only [hsl] at h
      have hslot : slotOf all j = sl := by simp [slotOf, hsl]
      have hy : ∀ v, a.tmps[sl]? = some v → yielded all.toArray a.tmps j = (match v with | .bool c => some c | _ => none) := fun v hv => by
        have h1 : ((all.toArray[j]?).bind (·.dst)).bind (a.tmps[·]?) = some v := by simp [hsl, hv]
        unfold yielded
        rw [h1]
        cases v <;> rfl
      split at h
      · rename_i c hlk
        simp only [Bg] at h
        have hval : ∀ β, RepB V β w0 N (lk env) (lk mem) a w → a.tmps[sl]? = some (.bool c) := fun β hb => by
          obtain ⟨v, hv, hrep⟩ := hb.slots sl _ hlk
          have : v = .bool c := hrep
          rw [hv, this]
        obtain ⟨β, hb⟩ := hr
        have hw : Region.wanted o (yielded all.toArray a.tmps) = (c == b) := by simp [Region.wanted, hg, hy _ (hval β hb)]
        cases hcb : (c == b) with
        | true =>
          have hceq : c = b := by simpa using hcb
          refine h2 (h.1 hcb) ?_ (by rw [hw, hcb])
          simp only [gset, hslot, if_true, List.cons_append, List.nil_append]
          exact Rep.same ⟨β, hb⟩ fun β' hb' => ⟨.bool c, hval β' hb', by rw [hceq]; exact rfl⟩
        | false =>
          have hceq : c = !b := by cases c <;> cases b <;> simp_all
          refine h3 (h.2 hcb) ?_ (by rw [hw, hcb])
          simp only [gset, hslot, Bool.false_eq_true, if_false, List.cons_append, List.nil_append]
          exact Rep.same ⟨β, hb⟩ fun β' hb' => ⟨.bool c, hval β' hb', by rw [hceq]; exact rfl⟩
      · rename_i vs hlk
        simp only [Bg] at h
        obtain ⟨β, hb⟩ := hr
        obtain ⟨v, hv, hrep⟩ := hb.slots sl _ hlk
        have : v = .tuple vs := hrep
        subst this
        exact h4 h (by simp [Region.wanted, hg, hy _ hv])
      · simp only [Bg] at h
theorem awpOps_step (hty : TysOk P ty) (hΓ : Gk P Γ) {all : List Oper} {K : List (Nat × AV) → List (Nat × Ct × Bool) → Prop} {Q : Exit → Act → World → Prop} {o : Oper} {r : List Oper} (hd : ∀ d, o.dst = some d → d < N)
    {env : List (Nat × AV)} {mem : List (Nat × Ct × Bool)} {a : Act} {w : World} (h : awpOps ty Γ all K (o :: r) env mem) (hr : Rep V w0 N (lk env) (lk mem) a w) {next : Act → World → Prop}
    (hn : ∀ env mem a w, awpOps ty Γ all K r env mem → Rep V w0 N (lk env) (lk mem) a w → next a w) :
    if Region.wanted o (yielded all.toArray a.tmps) then o.wp P a w next Q ∨ (o.asks P a w ∧ LetsOut Q) else next (a.put o.dst undef) w := by
  unfold awpOps at h
  refine guard_ok hty hΓ hr h (fun h hw => ?_) (fun h hr hw => ?_) (fun h hr hw => ?_) (fun h hw => ?_)
  · rw [if_pos hw]; exact .inl (aOne_ok hty hΓ hr hd h hn)
  · rw [if_pos hw]; exact .inl (aOne_ok hty hΓ hr hd h hn)
  · rw [if_neg (by simp [hw])]; exact hn _ _ _ _ h (Rep.putUndef hr hd)
  · rw [if_neg (by simp [hw])]; exact hn _ _ _ _ h (Rep.putUndef hr hd)
theorem awpOps_ok (hty : TysOk P ty) (hΓ : Gk P Γ) {all : List Oper} {K : List (Nat × AV) → List (Nat × Ct × Bool) → Prop} {Q : Exit → Act → World → Prop} (hK : ∀ env mem a w, K env mem → Rep V w0 N (lk env) (lk mem) a w → Q .normal a w) :
    ∀ (l : List Oper), (∀ o ∈ l, ∀ d, o.dst = some d → d < N) → ∀ (env : List (Nat × AV)) (mem : List (Nat × Ct × Bool)) (a : Act) (w : World), awpOps ty Γ all K l env mem → Rep V w0 N (lk env) (lk mem) a w → wpList P all.toArray Q l a w
  | [], _, env, mem, a, w, h, hr => hK env mem a w h hr
  | o :: r, hN, env, mem, a, w, h, hr => by
    have ih := awpOps_ok (all := all) hty hΓ hK r (fun o' ho' => hN o' (by simp [ho']))
    unfold wpList
    exact awpOps_step hty hΓ (hN o (by simp)) h hr ih
end Go.AM
namespace Go.AM
variable [Lay]
open Go.RowKit (Below)
variable {P : Program} {V : Nat → Prop} {β : Nat → Option Nat} {w0 w w' : World} {N : Nat} {e : Env} {m : Mem} {a : Act}
variable {ty : Ty} {Γ : Gam} {env : List (Nat × AV)} {mem : List (Nat × Ct × Bool)}

def lift (V : Nat → Prop) (w0 : World) (N : Nat) (Q : Post) : Exit → Act → World → Prop
  | .normal, a, w => ∃ env mem, Q .normal env mem ∧ Rep V w0 N (lk env) (lk mem) a w
  | .exit id, a, w => ∃ env mem, Q (.exit id) env mem ∧ Rep V w0 N (lk env) (lk mem) a w
  | .ret, a, w => ∃ env mem, Q .ret env mem ∧ Rep V w0 N (lk env) (lk mem) a w
  | _, _, _ => False
def dstsLt (N : Nat) : Code → Bool
  | .region _ ops _ => ops.all fun o => match o.dst with | some d => decide (d < N) | none => true
  | .seq a b => dstsLt N a && dstsLt N b
  | .cond _ a b => dstsLt N a && dstsLt N b
  | .block _ c => dstsLt N c
  | .loop c => dstsLt N c
  | _ => true
def DrawOk (P : Program) (ty : Ty) (Γ : Gam) : Prop := ∀ (V : Nat → Prop) (w0 : World) (N id : Nat) (ops : Array Oper) (Q : Post) (env : List (Nat × AV)) (mem : List (Nat × Ct × Bool)) (a : Act) (w : World),
  (∀ o ∈ ops, ∀ d, o.dst = some d → d < N) → drawOk ops.toList = true → awpD ty Γ ops.toList mem (Q .normal) 0 [] [] ops.toList env mem → Rep V w0 N (lk env) (lk mem) a w → (Code.region id ops true).wp P (lift V w0 N Q) a w

theorem awp_ok (hty : TysOk P ty) (hΓ : Gk P Γ) (hdr : DrawOk P ty Γ) (V : Nat → Prop) (w0 : World) (N : Nat) : ∀ (c : Code), dstsLt N c = true → ∀ (Q : Post) (env : List (Nat × AV)) (mem : List (Nat × Ct × Bool)) (a : Act) (w : World),
    awp ty Γ c Q env mem → Rep V w0 N (lk env) (lk mem) a w → c.wp P (lift V w0 N Q) a w := by
  intro c
  induction c with
  | skip => intro _ Q env mem a w h hr; exact wp_skip ⟨env, mem, h, hr⟩
  | ret => intro _ Q env mem a w h hr; exact wp_ret ⟨env, mem, h, hr⟩
  | exit id => intro _ Q env mem a w h hr; exact wp_exit ⟨env, mem, h, hr⟩
  | seq x y ihx ihy =>
    intro hN Q env mem a w h hr
    simp only [dstsLt, Bool.and_eq_true] at hN
    refine wp_seq (wp_mono (ihx hN.1 _ env mem a w h hr) ?_)
    intro e a' w' hq
    cases e with
    | normal => obtain ⟨env', mem', ⟨e0, m0, h0, h1⟩, h2⟩ := hq; exact ihy hN.2 Q e0 m0 a' w' h1 (h0 _ _ _ _ _ h2)
    | exit id => obtain ⟨env', mem', h1, h2⟩ := hq; exact ⟨env', mem', h1, h2⟩
    | ret => obtain ⟨env', mem', h1, h2⟩ := hq; exact ⟨env', mem', h1, h2⟩
    | _ => exact hq.elim
  | block id x ih =>
    intro hN Q env mem a w h hr
    refine wp_block (wp_mono (ih hN _ env mem a w h hr) ?_)
    intro e a' w' hq
    cases e with
    | normal => exact hq
    | exit j =>
      obtain ⟨env', mem', h1, h2⟩ := hq
      simp only [Exit.inBlock]
      simp only [blockP] at h1
      split
      · rename_i hj; rw [if_pos hj] at h1; exact ⟨env', mem', h1, h2⟩
      · rename_i hj; rw [if_neg hj] at h1; exact ⟨env', mem', h1, h2⟩
    | ret => exact hq
    | _ => exact hq.elim
  | cond x p q ihp ihq =>
    intro hN Q env mem a w h hr
    simp only [dstsLt, Bool.and_eq_true] at hN
    simp only [awp] at h
    unfold aCond at h
    split at h
    · rename_i c hx
      obtain ⟨β, hb⟩ := hr
      refine wp_cond_split (opd_v hb hx) (fun hc => ihp hN.1 Q env mem a w (h.1 hc) ⟨β, hb⟩) (fun hc => ihq hN.2 Q env mem a w (h.2 hc) ⟨β, hb⟩)
    · exact h.elim
  | region id ops dr =>
    intro hN Q env mem a w h hr
    have hN' : ∀ o ∈ ops, ∀ d, o.dst = some d → d < N := fun o ho d hd => by
      simp only [dstsLt, Array.all_eq_true_iff_forall_mem] at hN
      have := hN o ho
      rw [hd] at this
      simpa using this
    cases dr with
    | false =>
      refine wp_region_list ?_
      have := awpOps_ok (P := P) (all := ops.toList) hty hΓ (K := Q .normal) (Q := lift V w0 N Q) (fun env mem a w hk hr => ⟨env, mem, hk, hr⟩) ops.toList (fun o ho => hN' o (by simpa using ho)) env mem a w h hr
      simpa using this
    | true => exact hdr V w0 N id ops Q env mem a w hN' h.1 h.2 hr
  | loop x ih =>
    intro hN Q env mem a w h hr
    obtain ⟨ι, E, M, μ, i0, h0, hround⟩ := h
    refine wp_loop_ghost (fun n a w => ∃ i, μ i = n ∧ Rep V w0 N (lk (E i)) (lk (M i)) a w) (μ i0) ⟨i0, rfl, h0 _ _ _ _ _ hr⟩ ?_
    rintro n a w ⟨i, rfl, hri⟩
    refine wp_mono (ih hN _ _ _ a w (hround i) hri) ?_
    intro e a' w' hq
    cases e with
    | normal => obtain ⟨env', mem', ⟨j, h1, h2⟩, h3⟩ := hq; exact ⟨μ j, h2, j, rfl, h1 _ _ _ _ _ h3⟩
    | exit id => exact hq
    | ret => exact hq
    | _ => exact hq.elim
  | _ => intro _ Q env mem a w h; simp only [awp] at h
end Go.AM
namespace Go.AM
variable [Lay]
open Go.RowKit (Below)
variable {P : Program} {V : Nat → Prop} {β : Nat → Option Nat} {w0 w w' : World} {N : Nat} {e : Env} {m : Mem} {a : Act}
variable {ty : Ty} {Γ : Gam} {env : List (Nat × AV)} {mem : List (Nat × Ct × Bool)}

def entry : Nat → List DV → List (Nat × AV)
  | _, [] => []
  | i, .v x :: r => (i, .v x) :: entry (i + 1) r
  | i, .sl k l :: r => (i, .rd k l) :: entry (i + 1) r
def rvOk (ty : Ty) (e : Env) (m : Mem) : ResultVar → RV → Prop
  | .tmp t, .v x => match e t with
    | some (.v y) => y = x
    | _ => False
  | .tmp t, .fresh k l => match e t with
    | some (.ow key) => match m key with
      | some (.ints k' l', _) => k' = k ∧ l' = l
      | _ => False
    | some (.al key lo n) => match m key with
      | some (.ints k' l', _) => lo = 0 ∧ k' = k ∧ l'.take n = l
      | _ => False
    | some (.v (.slice none 0 0)) => l = []
    | _ => False
  | .tmp t, .cells n l => match e t with
    | some (.ows key n') => match m key with
      | some (.vals l', _) => n' = n ∧ l' = l
      | _ => False
    | _ => False
  | .tmp t, .view k l => match e t with
    | some (.rd k' l') => k' = k ∧ l' = l
    | some (.ow key) => match m key with
      | some (.ints k' l', _) => k' = k ∧ l' = l
      | _ => False
    | some (.al key lo n) => match m key with
      | some (.ints k' l', _) => k' = k ∧ (l'.drop lo).take n = l
      | _ => False
    | some (.v (.slice none 0 0)) => l = []
    | _ => False
  | .cell t u, .v x => match e t, ty u with
    | some (.ref key off), some i => match m key with
      | some (c, _) => match ldAt c off i.size i.agg with
        | some (p, y) => p ∧ y = x
        | none => False
      | none => False
    | _, _ => False
  | _, _ => False
def rvsOk (ty : Ty) (e : Env) (m : Mem) : List ResultVar → List RV → Prop
  | [], [] => True
  | v :: vs, r :: rs => rvOk ty e m v r ∧ rvsOk ty e m vs rs
  | _, _ => False
def rKeys (e : Env) : List ResultVar → List RV → List Nat
  | .tmp t :: vs, .fresh _ _ :: rs => (match e t with
    | some (.ow key) => [key]
    | some (.al key _ _) => [key]
    | _ => []) ++ rKeys e vs rs
  | .tmp t :: vs, .cells _ _ :: rs => (match e t with
    | some (.ows key _) => [key]
    | _ => []) ++ rKeys e vs rs
  | _ :: vs, _ :: rs => rKeys e vs rs
  | _, _ => []
def nodupN : List Nat → Bool
  | [] => true
  | x :: r => !(r.contains x) && nodupN r
def resOk (ty : Ty) (e : Env) (m : Mem) (vs : List ResultVar) : Res → Prop
  | .one r => match vs with
    | [v] => rvOk ty e m v r
    | _ => False
  | .many rs => vs.length ≠ 1 ∧ rvsOk ty e m vs rs ∧ nodupN (rKeys e vs rs) = true
def retP (ty : Ty) (vs : List ResultVar) (r : Res) : Post := fun ex env mem => match ex with
  | .exit _ => False
  | _ => resOk ty (lk env) (lk mem) vs r

theorem load_ref (h : RepB V β w0 N e m a w) {t : TypeId} {i : TI} (ht : TyOk P t i) {key off : Nat} {c : Ct} {fr : Bool} (hk : m key = some (c, fr)) {b : Nat} (hb : β key = some b)
    {p : Prop} {v : Value} (hl : ldAt c off i.size i.agg = some (p, v)) (hp : p) : (loadVar t ⟨b, off, none⟩).run P w = .ok v w := by
  cases c with
  | vals l =>
    simp only [ldAt] at hl
    cases hag : i.agg with
    | true =>
      simp only [hag, if_true, Option.some.injEq, Prod.mk.injEq] at hl
      obtain ⟨rfl, rfl⟩ := hl
      have hlen : ((l.drop off).take i.size).length = i.size := by simp; omega
      have hr := run_loadCells_list (P := P) w ⟨b, off, none⟩ ((l.drop off).take i.size) (fun j u hu => by
        rw [Addr.add_plain]
        refine h.cell hk hb ?_
        rw [List.getElem?_take] at hu
        split at hu
        · simpa [Ct.cells] using hu
        · cases hu)
      rw [hlen] at hr
      simp [loadVar, ht.run_isAgg, hag, ht.run_size, hr]
    | false =>
      simp only [hag, Bool.false_eq_true, if_false, Option.some.injEq, Prod.mk.injEq] at hl
      obtain ⟨rfl, rfl⟩ := hl
      have hc := h.cell hk hb (i := off) (v := l.getD off (.tuple #[])) (by simp [Ct.cells, hp])
      simp [loadVar, ht.run_isAgg, hag, hc]
  | ints k l =>
    simp only [ldAt] at hl
    cases hag : i.agg with
    | true => simp [hag] at hl
    | false =>
      simp only [hag, Bool.false_eq_true, if_false, Option.some.injEq, Prod.mk.injEq] at hl
      obtain ⟨rfl, rfl⟩ := hl
      have hc := h.cell hk hb (i := off) (v := .int k (l.getD off 0)) (by simp [Ct.cells, hp])
      simp [loadVar, ht.run_isAgg, hag, hc]
theorem run_result (hty : TysOk P ty) (h : RepB V β w0 N e m a w) {args : List Value} {x : ResultVar} {r : RV} (hV : ∀ b, V b → w0.heap.size ≤ b ∨ ∃ u ∈ args, Lb u = some b) (hr : rvOk ty e m x r) :
    ∃ v, ((match x with | .tmp t => pure (a.tmps.getD t undef) | .cell c t => do loadVar t (← asAddr (a.tmps.getD c undef)) : Sem Value)).run P w = .ok v w ∧ RepR w0 w args r v ∧
      (r.isFresh = true → ownB v = none ∨ ∃ b key, ownB v = some b ∧ β key = some b ∧ (m key).isSome = true ∧ rKeys e [x] [r] = [key]) := by
  have hslot : ∀ t av, e t = some av → ∃ v, a.tmps.getD t undef = v ∧ RepA V β m w av v := fun t av he => by
    obtain ⟨v, hv, hrep⟩ := h.slots t av he
    exact ⟨v, by simp [hv], hrep⟩
  have hB : ∀ key b, (m key).isSome = true → β key = some b → w0.heap.size ≤ b ∧ ∃ c fr arr T rest, m key = some (c, fr) ∧ w.heap[b]? = some (.cells arr T (0, 0)) ∧ arr.toList = c.cells ++ rest := fun key b hs hb => by
    obtain ⟨⟨c, fr⟩, hc⟩ := Option.isSome_iff_exists.1 hs
    obtain ⟨_, h1 | ⟨b', arr, T, rest, h1, h2, h3, h4⟩⟩ := h.mem key c fr hc
    · rw [hb] at h1; exact absurd h1.1 (by simp)
    · rw [hb] at h1; cases h1; exact ⟨h2, c, fr, arr, T, rest, hc, h3, h4⟩
  cases x with
  | tmp t =>
    cases r with
    | v x =>
      simp only [rvOk] at hr
      split at hr
      · rename_i y he
        subst hr
        obtain ⟨v, hv, hrep⟩ := hslot t _ he
        exact ⟨v, by simp [hv], hrep, fun hh => by cases hh⟩
      · exact hr.elim
    | cells n l =>
      simp only [rvOk] at hr
      split at hr
      · rename_i key n' he
        obtain ⟨v, hv, c, fr, cap, b, hk, hb, hc1, hc2, rfl⟩ := hslot t _ he
        rw [hk] at hr
        split at hr
        · rename_i l' fr' hk'
          cases hk'
          obtain ⟨rfl, rfl⟩ := hr
          obtain ⟨hge, c', fr'', arr, T, rest, hc', hh, harr⟩ := hB key b (by simp [hk]) hb
          rw [hk] at hc'; cases hc'
          exact ⟨_, by simp [hv], ⟨b, cap, arr, T, rest, rfl, hc1, hc2, hge, hh, harr, (h.mem key _ _ hk).1⟩, fun _ => .inr ⟨b, key, rfl, hb, by simp [hk], by simp [rKeys, he]⟩⟩
        · exact hr.elim
      · exact hr.elim
    | fresh k l =>
      simp only [rvOk] at hr
      split at hr
      · rename_i key he
        obtain ⟨v, hv, c, fr, cap, hk, hc2, hc1, h4⟩ := hslot t _ he
        rw [hk] at hr
        split at hr
        · rename_i k' l' fr' hk'
          cases hk'
          obtain ⟨rfl, rfl⟩ := hr
          rcases h4 with ⟨hb, h0, rfl⟩ | ⟨b, hb, rfl⟩
          · exact ⟨.slice none 0 0, by simp [hv], .inl ⟨rfl, by simpa [Ct.len] using h0⟩, fun hh => .inl rfl⟩
          · obtain ⟨hge, c', fr'', arr, T, rest, hc', hh, harr⟩ := hB key b (by simp [hk]) hb
            rw [hk] at hc'; cases hc'
            exact ⟨.slice (some ⟨b, 0, none⟩) l'.length cap, by rw [← show (Ct.ints k' l').len = l'.length from rfl]; simp [hv], .inr ⟨b, cap, arr, T, rest, rfl, hc1, ⟨hc2.1, by have := hc2.2 b hb; unfold bsz at this; rw [hh] at this; simp only at this; omega⟩, hge, hh, harr⟩, fun _ => .inr ⟨b, key, rfl, hb, by simp [hk], by simp [rKeys, he]⟩⟩
        · exact hr.elim
      · rename_i key lo n he
        obtain ⟨v, hv, ⟨c, fr, hk, hle⟩, A, cap, rfl, hc1, hc2, h4⟩ := hslot t _ he
        rw [hk] at hr
        split at hr
        · rename_i k' l' fr' hk'
          cases hk'
          obtain ⟨rfl, rfl, rfl⟩ := hr
          have hlen : (l'.take n).length = n := by simp [Ct.len] at hle; simp; omega
          rcases h4 (.inr rfl) with ⟨hb, rfl, rfl, rfl⟩ | ⟨b, hb, rfl⟩
          · exact ⟨.slice none 0 0, by simp [hv], .inl ⟨rfl, by simp⟩, fun hh => .inl rfl⟩
          · obtain ⟨hge, c', fr'', arr, T, rest, hc', hh, harr⟩ := hB key b (by simp [hk]) hb
            rw [hk] at hc'; cases hc'
            refine ⟨.slice (some ⟨b, 0, none⟩) n cap, by simp [hv], .inr ⟨b, cap, arr, T, (l'.drop n).map (Value.int k') ++ rest, by rw [hlen], by rw [hlen]; exact hc1, ⟨hc2.1, by have := hc2.2 b hb; unfold bsz at this; rw [hh] at this; simp only at this; omega⟩, hge, hh, ?_⟩, fun _ => .inr ⟨b, key, rfl, hb, by simp [hk], by simp [rKeys, he]⟩⟩
            rw [harr, ← List.append_assoc, ← List.map_append, List.take_append_drop]
            rfl
        · exact hr.elim
      · rename_i he
        subst hr
        obtain ⟨v, hv, hrep⟩ := hslot t _ he
        have : v = .slice none 0 0 := hrep
        subst this
        exact ⟨_, by simp [hv], .inl ⟨rfl, rfl⟩, fun hh => .inl rfl⟩
      · exact hr.elim
    | view k l =>
      simp only [rvOk] at hr
      have nofresh : ∀ (k l) (v : Value), RV.view k l = .fresh k l → False := fun k l v hh => by cases hh
      split at hr
      · rename_i k' l' he
        obtain ⟨rfl, rfl⟩ := hr
        obtain ⟨v, hv, A, cap, rfl, hc1, hc2, h4⟩ := hslot t _ he
        refine ⟨_, by simp [hv], ⟨⟨A, cap, rfl, hc1, hc2, fun hl => by obtain ⟨ad, e1, _, hc⟩ := h4 hl; exact ⟨ad, e1, hc⟩⟩, fun b hb => ?_⟩, fun hh => by cases hh⟩
        have hl : l' ≠ [] := by
          intro h0; subst h0
          unfold Lb at hb
          split at hb
          · rename_i hh; cases hh; simp at hb
          · cases hb
        obtain ⟨ad, rfl, hap, _⟩ := h4 hl
        simp only [Lb, if_pos (List.length_pos_iff.2 hl), Option.some.injEq] at hb
        subst hb
        exact hV _ hap.1
      · rename_i key he
        obtain ⟨v, hv, c, fr, cap, hk, hc2, hc1, h4⟩ := hslot t _ he
        have hrd := dvOf_ok h (av := .ow key) (v := v) (dv := .sl k l) ⟨c, fr, cap, hk, hc2, hc1, h4⟩ (by
          rw [hk] at hr
          split at hr
          · rename_i k' l' fr' hk'; cases hk'; obtain ⟨rfl, rfl⟩ := hr; simp [dvOf, hk]
          · exact hr.elim)
        refine ⟨v, by simp [hv], ⟨hrd, fun b hb => ?_⟩, fun hh => by cases hh⟩
        rcases h4 with ⟨_, _, rfl⟩ | ⟨b', hb', rfl⟩
        · cases hb
        · simp only [Lb] at hb
          split at hb
          · have hbb : b' = b := by simpa using hb
            subst hbb
            exact .inl (hB key b' (by simp [hk]) hb').1
          · cases hb
      · rename_i key lo n he
        obtain ⟨v, hv, ⟨c, fr, hk, hle⟩, A, cap, rfl, hc1, hc2, h4⟩ := hslot t _ he
        have hrd := dvOf_ok h (av := .al key lo n) (v := .slice A n cap) (dv := .sl k l) ⟨⟨c, fr, hk, hle⟩, A, cap, rfl, hc1, hc2, h4⟩ (by
          rw [hk] at hr
          split at hr
          · rename_i k' l' fr' hk'; cases hk'; obtain ⟨rfl, rfl⟩ := hr; simp [dvOf, hk]
          · exact hr.elim)
        refine ⟨_, by simp [hv], ⟨hrd, fun b hb => ?_⟩, fun hh => by cases hh⟩
        have hn : 0 < n := by
          unfold Lb at hb
          split at hb
          · rename_i hh; cases hh
            split at hb
            · assumption
            · cases hb
          · cases hb
        rcases h4 (.inl hn) with ⟨_, _, h0, _⟩ | ⟨b', hb', rfl⟩
        · omega
        · have : b' = b := by simpa [Lb, hn] using hb
          subst this
          exact .inl (hB key b' (by simp [hk]) hb').1
      · rename_i he
        subst hr
        obtain ⟨v, hv, hrep⟩ := hslot t _ he
        have : v = .slice none 0 0 := hrep
        subst this
        exact ⟨_, by simp [hv], ⟨⟨none, 0, rfl, by simp, by simp, fun h => absurd rfl h⟩, fun b hb => by cases hb⟩, fun hh => by cases hh⟩
      · exact hr.elim
  | cell t u =>
    cases r with
    | v x =>
      simp only [rvOk] at hr
      split at hr
      · rename_i key off i he hi
        obtain ⟨v, hv, h0, b, hb, rfl⟩ := hslot t _ he
        split at hr
        · rename_i c fr hk
          split at hr
          · rename_i p y hl
            obtain ⟨hp, rfl⟩ := hr
            have hT := hty u i hi
            refine ⟨_, ?_, rfl, fun hh => by cases hh⟩
            have hq := load_ref h hT hk hb hl hp
            simp [hv, asAddr, hq]
          · exact hr.elim
        · exact hr.elim
      · exact hr.elim
    | fresh k l => exact hr.elim
    | view k l => exact hr.elim
    | cells n l => exact hr.elim
end Go.AM
namespace Go.AM
variable [Lay]
open Go.RowKit (Below)
variable {P : Program} {V : Nat → Prop} {β : Nat → Option Nat} {w0 w w' : World} {N : Nat} {e : Env} {m : Mem} {a : Act}
variable {ty : Ty} {Γ : Gam} {env : List (Nat × AV)} {mem : List (Nat × Ct × Bool)}

def getR (a : Act) : ResultVar → Sem Value
  | .tmp t => pure (a.tmps.getD t undef)
  | .cell c t => do loadVar t (← asAddr (a.tmps.getD c undef))
theorem nodupN_ok : ∀ {l : List Nat}, nodupN l = true → l.Nodup
  | [], _ => List.nodup_nil
  | x :: r, h => by
    simp only [nodupN, Bool.and_eq_true, Bool.not_eq_true', List.contains_eq_mem, decide_eq_false_iff_not] at h
    exact List.nodup_cons.2 ⟨h.1, nodupN_ok h.2⟩
theorem run_results (hty : TysOk P ty) (h : RepB V β w0 N e m a w) {args : List Value} (hV : ∀ b, V b → w0.heap.size ≤ b ∨ ∃ u ∈ args, Lb u = some b) :
    ∀ (xs : List ResultVar) (rs : List RV), rvsOk ty e m xs rs → ∃ us, (xs.mapM (getR a)).run P w = .ok us w ∧ us.length = xs.length ∧ RepRs w0 w args rs us ∧
      ∃ ps : List (Nat × Nat), (∀ p ∈ ps, β p.1 = some p.2 ∧ (m p.1).isSome = true) ∧ freshBs rs us = ps.map (·.2) ∧ ∃ sub : List Nat, (ps.map (·.1)).Sublist (rKeys e xs rs)
  | [], [], _ => ⟨[], by simp, rfl, trivial, [], by simp, rfl, [], by simp [rKeys]⟩
  | [], _ :: _, hr => hr.elim
  | _ :: _, [], hr => hr.elim
  | x :: xs, r :: rs, hr => by
    obtain ⟨v, hv, hrep, hfr⟩ := run_result (args := args) hty h hV hr.1
    obtain ⟨us, hus, hlen, hreps, ps, hps, hfb, sub, hsub⟩ := run_results hty h hV xs rs hr.2
    have hv' : (getR a x).run P w = .ok v w := by cases x <;> exact hv
    refine ⟨v :: us, by simp [List.mapM_cons, hv', hus], by simp [hlen], ⟨hrep, hreps⟩, ?_⟩
    have hkeys : rKeys e (x :: xs) (r :: rs) = rKeys e [x] [r] ++ rKeys e xs rs := by
      cases x <;> cases r <;> simp [rKeys]
    cases r with
    | v y => exact ⟨ps, hps, by simpa [freshBs] using hfb, sub, by rw [hkeys]; exact hsub.trans (List.sublist_append_right _ _)⟩
    | view k l => exact ⟨ps, hps, by simpa [freshBs] using hfb, sub, by rw [hkeys]; exact hsub.trans (List.sublist_append_right _ _)⟩
    | fresh k l =>
      rcases hfr rfl with h0 | ⟨b, key, h1, h2, h3, h4⟩
      · exact ⟨ps, hps, by simp [freshBs, h0, hfb], sub, by rw [hkeys]; exact hsub.trans (List.sublist_append_right _ _)⟩
      · refine ⟨(key, b) :: ps, ?_, by simp [freshBs, h1, hfb], sub, by rw [hkeys, h4]; exact List.Sublist.cons_cons _ hsub⟩
        intro p hp
        rcases List.mem_cons.1 hp with rfl | hp
        · exact ⟨h2, h3⟩
        · exact hps p hp
    | cells k l =>
      rcases hfr rfl with h0 | ⟨b, key, h1, h2, h3, h4⟩
      · exact ⟨ps, hps, by simp [freshBs, h0, hfb], sub, by rw [hkeys]; exact hsub.trans (List.sublist_append_right _ _)⟩
      · refine ⟨(key, b) :: ps, ?_, by simp [freshBs, h1, hfb], sub, by rw [hkeys, h4]; exact List.Sublist.cons_cons _ hsub⟩
        intro p hp
        rcases List.mem_cons.1 hp with rfl | hp
        · exact ⟨h2, h3⟩
        · exact hps p hp
theorem nodup_blocks (h : RepB V β w0 N e m a w) : ∀ {ps : List (Nat × Nat)}, (∀ p ∈ ps, β p.1 = some p.2 ∧ (m p.1).isSome = true) → (ps.map (·.1)).Nodup → (ps.map (·.2)).Nodup
  | [], _, _ => List.nodup_nil
  | p :: ps, hp, hn => by
    simp only [List.map_cons, List.nodup_cons] at hn ⊢
    refine ⟨fun hm => ?_, nodup_blocks h (fun q hq => hp q (by simp [hq])) hn.2⟩
    obtain ⟨q, hq, he⟩ := List.mem_map.1 hm
    obtain ⟨h1, h2⟩ := hp p (by simp)
    obtain ⟨h3, h4⟩ := hp q (by simp [hq])
    have := h.inj q.1 p.1 p.2 h4 h2 (he ▸ h3) h1
    exact hn.1 (List.mem_map.2 ⟨q, hq, this⟩)
def avOf : DV → AV
  | .v x => .v x
  | .sl k l => .rd k l
theorem lk_entry : ∀ (ds : List DV) (i k : Nat) (av : AV), lk (entry i ds) k = some av → i ≤ k ∧ ∃ d, ds[k - i]? = some d ∧ av = avOf d
  | [], i, k, av, h => by cases h
  | d :: r, i, k, av, h => by
    have key : lk (entry i (d :: r)) k = if k = i then some (avOf d) else lk (entry (i + 1) r) k := by cases d <;> rfl
    rw [key] at h
    split at h
    · rename_i hk; subst hk; exact ⟨Nat.le_refl _, d, by simp, (Option.some.inj h).symm⟩
    · obtain ⟨h1, d', h2, h3⟩ := lk_entry r (i + 1) k av h
      refine ⟨by omega, d', ?_, h3⟩
      rw [show k - i = (k - (i + 1)) + 1 by omega]
      simpa using h2
theorem RepDs.get {w : World} : ∀ {ds : List DV} {vs : List Value}, RepDs w ds vs → ds.length = vs.length ∧ ∀ (j : Nat) (d : DV), ds[j]? = some d → ∃ v, vs[j]? = some v ∧ RepD w d v
  | [], [], _ => ⟨rfl, fun j d h => by simp at h⟩
  | [], _ :: _, h => h.elim
  | _ :: _, [], h => h.elim
  | d :: ds, v :: vs, h => by
    obtain ⟨h1, h2⟩ := RepDs.get h.2
    refine ⟨by simp [h1], fun j d' hj => ?_⟩
    cases j with
    | zero => simp at hj; subst hj; exact ⟨v, by simp, h.1⟩
    | succ j => obtain ⟨u, h3, h4⟩ := h2 j d' (by simpa using hj); exact ⟨u, by simpa using h3, h4⟩
theorem sound_body {f : Nat} {fn : Func} {c : Code} {spec : Cs} (hf : P.funcs[f]? = some fn) (hb : fn.body = some c) (hn : (fn.name == "runtime.NumGoroutine") = false) (hty : TysOk P ty) (hΓ : Gk P Γ) (hdr : DrawOk P ty Γ) (hN : dstsLt fn.ntmps c = true)
    (H : ∀ ds p r, spec ds = some (p, r) → p → ds.length ≤ fn.ntmps ∧ awp ty Γ c (retP ty fn.results.toList r) (entry 0 ds) []) : Sound P f .body spec := by
  refine ⟨fn, hf, hn, by simp [hb], fun ds p r hs hp w vs hT hrep => ?_⟩
  obtain ⟨hlen, hwp⟩ := H ds p r hs hp
  obtain ⟨hl2, hget⟩ := RepDs.get hrep
  refine calls_of_wp hf hb ?_
  let V : Nat → Prop := fun b => w.heap.size ≤ b ∨ ∃ u ∈ vs, Lb u = some b
  have hinit : Rep V w fn.ntmps (lk (entry 0 ds)) (lk []) { tmps := vs.toArray ++ Array.replicate (fn.ntmps - vs.toArray.size) undef, defers := [] } w := by
    refine ⟨fun _ => none, ⟨⟨fun b hb => .inl hb, hT⟩, Below.refl _ _, by simp; omega, rfl, (fun key c fr hk => by cases hk), (fun k k' b hk => by cases hk), fun k av he => ?_⟩⟩
    obtain ⟨_, d, hd, rfl⟩ := lk_entry ds 0 k av he
    simp only [Nat.sub_zero] at hd
    obtain ⟨v, hv, hr⟩ := hget k d hd
    refine ⟨v, ?_, ?_⟩
    · have hk : k < vs.length := (List.getElem?_eq_some_iff.1 hv).1
      rw [Array.getElem?_append_left (by simpa using hk)]
      simpa using hv
    · cases d with
      | v x => exact hr
      | sl k' l =>
        obtain ⟨A, cap, h1, h2, h3, h4⟩ := hr
        refine ⟨A, cap, h1, h2, h3, fun hl => ?_⟩
        obtain ⟨ad, h5, h6⟩ := h4 hl
        refine ⟨ad, h5, ⟨.inr ⟨v, List.mem_of_getElem? hv, ?_⟩, fun key c hk => by cases hk⟩, h6⟩
        rw [h1, h5]
        simp [Lb, List.length_pos_iff.2 hl]
  refine wp_mono (awp_ok hty hΓ hdr V w fn.ntmps c hN _ _ _ _ _ hwp hinit) ?_
  have fin : ∀ (env : List (Nat × AV)) (mem : List (Nat × Ct × Bool)) (a' : Act) (w' : World), resOk ty (lk env) (lk mem) fn.results.toList r → Rep V w fn.ntmps (lk env) (lk mem) a' w' →
      a'.defers = [] ∧ ∃ v, (results fn a'.tmps).run P w' = .ok v w' ∧ (fun e w' => ∃ v, e = Ending.returned v ∧ Below w.heap.size w w' ∧ RepRes w w' vs r v) (Ending.returned v) w' := by
    rintro env mem a' w' hq ⟨β, hbx⟩
    refine ⟨hbx.defers, ?_⟩
    have hres : ∀ us, (fn.results.toList.mapM (getR a')).run P w' = .ok us w' → (results fn a'.tmps).run P w' = .ok (if h : us.toArray.size = 1 then us.toArray[0] else .tuple us.toArray) w' := fun us hu => by
      have he : results fn a'.tmps = ((fn.results.mapM (getR a')) >>= fun vs => pure (if h : vs.size = 1 then vs[0] else .tuple vs)) := by
        unfold results
        congr 1
      rw [he, Array.mapM_eq_mapM_toList]
      simp only [Sem.run_bind, Sem.run_map, hu, Result.andThen_ok, Sem.run_pure]
    cases r with
    | one r =>
      simp only [resOk] at hq
      split at hq
      · rename_i x hx
        obtain ⟨v, hv, hrep', _⟩ := run_result (args := vs) hty hbx (fun b hb => hb) hq
        have hv' : (getR a' x).run P w' = .ok v w' := by cases x <;> exact hv
        have := hres [v] (by rw [hx]; simp [List.mapM_cons, hv'])
        exact ⟨v, by simpa using this, v, rfl, hbx.below, hrep'⟩
      · exact hq.elim
    | many rs =>
      obtain ⟨h1, h2, h3⟩ := hq
      obtain ⟨us, hus, hlen', hreps, ps, hps, hfb, sub, hsub⟩ := run_results (args := vs) hty hbx (fun b hb => hb) _ _ h2
      have := hres us hus
      rw [dif_neg (by simp [hlen']; simpa using h1)] at this
      exact ⟨_, this, _, rfl, hbx.below, us, rfl, hreps, by rw [hfb]; exact nodup_blocks hbx hps (List.Sublist.nodup hsub (nodupN_ok h3))⟩
  intro ex a' w' hq
  cases ex with
  | normal => obtain ⟨env, mem, h1, h2⟩ := hq; exact fin env mem a' w' h1 h2
  | ret => obtain ⟨env, mem, h1, h2⟩ := hq; exact fin env mem a' w' h1 h2
  | exit id => obtain ⟨env, mem, h1, h2⟩ := hq; exact h1.elim
  | _ => exact hq.elim
end Go.AM
namespace Go.AM
variable [Lay]
variable {ty : Ty} {Γ : Gam}

def Agree (s s' : St) (x : Operand) : Prop := opd s x = opd s' x ∧ ∀ key, keyOn (opd s x) = some key → s.m key = s'.m key
theorem lo_congr {s s' : St} : ∀ {lo : Option Operand}, (∀ x ∈ lo.toArray, Agree s s' x) → lo? s lo = lo? s' lo
  | none, _ => rfl
  | some x, h => by simp only [lo?, (h x (by simp)).1]
theorem hi_congr {s s' : St} {n : Nat} : ∀ {hi : Option Operand}, (∀ x ∈ hi.toArray, Agree s s' x) → hi? s n hi = hi? s' n hi
  | none, _ => rfl
  | some x, h => by simp only [hi?, (h x (by simp)).1]
theorem bracket_congr {s s' : St} {n : Nat} {lo hi : Option Operand} (h1 : ∀ x ∈ lo.toArray, Agree s s' x) (h2 : ∀ x ∈ hi.toArray, Agree s s' x) : bracket s n lo hi = bracket s' n lo hi := by
  unfold bracket; rw [lo_congr h1, hi_congr h2]
theorem fillParts_congr {s s' : St} {place : Nat → Option (Nat × Nat)} : ∀ {parts : List (Nat × Operand)} {cs : List Value}, (∀ p ∈ parts, Agree s s' p.2) → fillParts place s parts cs = fillParts place s' parts cs
  | [], _, _ => rfl
  | (i, x) :: r, cs, h => by
    have ih := fun cs => fillParts_congr (s := s) (s' := s') (place := place) (parts := r) (cs := cs) fun p hp => h p (List.mem_cons_of_mem _ hp)
    have hx : opd s x = opd s' x := (h (i, x) (List.mem_cons_self ..)).1
    simp only [fillParts, hx, ih]
theorem dvOf_congr {s s' : St} {x : AV} (h : ∀ key, keyOn x = some key → s.m key = s'.m key) : dvOf s x = dvOf s' x := by
  cases x <;> simp only [dvOf]
  · rw [h _ rfl]
  · rw [h _ rfl]
theorem dvs_congr {s s' : St} : ∀ {args : List Operand}, (∀ x ∈ args, Agree s s' x) → dvs s args = dvs s' args
  | [], _ => rfl
  | x :: r, h => by
    have hx := h x (by simp)
    have ih : dvs s r = dvs s' r := dvs_congr fun y hy => h y (List.mem_cons_of_mem _ hy)
    have h1 : dvOf s (opd s x) = dvOf s' (opd s' x) := by rw [dvOf_congr hx.2, hx.1]
    simp only [dvs, ih, h1]
theorem freezes_congr {s s' : St} : ∀ {args : List Operand}, (∀ x ∈ args, Agree s s' x) → freezes s args = freezes s' args
  | [], _ => rfl
  | x :: r, h => by
    have hx := h x (by simp)
    have : (keyOf (opd s x)).bind (fun k => (s.m k).map fun c => (k, c.1, true)) = (keyOf (opd s' x)).bind (fun k => (s'.m k).map fun c => (k, c.1, true)) := by
      rw [← hx.1]
      cases hk : opd s x <;> simp only [keyOf, Option.bind_none, Option.bind_some]
      · rw [hx.2 _ (by rw [hk]; rfl)]
      · rw [hx.2 _ (by rw [hk]; rfl)]
    have ih : freezes s r = freezes s' r := freezes_congr fun y hy => h y (List.mem_cons_of_mem _ hy)
    simp only [freezes, this, ih]
theorem bindRes_congr {s s' : St} {d : Nat} {args : List Operand} {p : Prop} {r : Res} (h : ∀ x ∈ args, Agree s s' x) : bindRes s d args p r = bindRes s' d args p r := by
  cases r <;> simp only [bindRes, freezes_congr h]
theorem slLen_congr {s s' : St} {x : AV} (h : ∀ key, keyOn x = some key → s.m key = s'.m key) : slLen s x = slLen s' x := by
  cases x
  case ow key => simp only [slLen]; rw [h _ rfl]
  case v x => unfold slLen; split <;> simp_all
  all_goals rfl
theorem aStep_congr {s s' : St} {d : Nat} {op : Op} (h : ∀ x ∈ op.operands, Agree s s' x) : aStep ty Γ s d op = aStep ty Γ s' d op := by
  unfold aStep
  split <;> simp only [Op.operands] at h
  case h_1 x => rw [(h x (by simp)).1]
  case h_2 x => rw [(h x (by simp)).1]
  case h_3 c a b => rw [(h c (by simp)).1, (h a (by simp)).1, (h b (by simp)).1]
  case h_4 => rfl
  case h_5 x => rw [(h x (by simp)).1]
  case h_6 t parts =>
    simp only [stBuild]
    have := fun p (hp : p ∈ parts.toList) => h p.2 (by simp only [List.mem_toArray, List.mem_map]; exact ⟨p, hp, rfl⟩)
    simp only [fillParts_congr this]
  case h_7 t n parts =>
    simp only [stBuildSlice]
    have := fun p (hp : p ∈ parts.toList) => h p.2 (by simp only [List.mem_toArray, List.mem_map]; exact ⟨p, hp, rfl⟩)
    simp only [fillParts_congr this]
  case h_8 t x =>
    have hx := h x (by simp)
    rw [← hx.1]
    unfold stLoad
    cases hk : opd s x
    case ref key off => simp only; rw [hx.2 _ (by rw [hk]; rfl)]
    all_goals rfl
  case h_9 x y _ => rw [(h x (by simp)).1, (h y (by simp)).1]
  case h_10 x => rw [(h x (by simp)).1]
  case h_11 t0 t x =>
    have hx := h x (by simp)
    rw [← hx.1]
    have hb : dvBytes s (opd s x) = dvBytes s' (opd s x) := by unfold dvBytes; split <;> (try rw [dvOf_congr hx.2]) <;> rfl
    unfold stConv
    generalize opd s x = a at hb ⊢
    congr 1; funext i0; congr 1; funext i
    generalize i.kind = kd
    split
    · rfl
    · rfl
    · rfl
    · rw [hb]
    · rfl
  case h_12 x y => rw [(h x (by simp)).1, (h y (by simp)).1]
  case h_13 t x lo hi =>
    have hx := h x (by simp)
    rw [← hx.1]
    have hb : ∀ n, bracket s n lo hi = bracket s' n lo hi := fun n => bracket_congr (fun y hy => h y (by simp at hy ⊢; simp [hy])) (fun y hy => h y (by simp at hy ⊢; simp [hy]))
    unfold stSlice
    split <;> (try rw [hb])
    · simp only [hb]; rw [hx.2 _ (by rw [‹opd s x = _›]; rfl)]
    · simp only [hb]; rw [hx.2 _ (by rw [‹opd s x = _›]; rfl)]
    · rfl
  case h_14 x _ => rw [(h x (by simp)).1]
  case h_15 x _ => rw [(h x (by simp)).1]
  case h_16 t x i =>
    have hx := h x (by simp)
    rw [← hx.1, (h i (by simp)).1]
    unfold stIndexAddr
    cases hk : opd s x
    case ow key => simp only; rw [hx.2 _ (by rw [hk]; rfl)]
    all_goals rfl
  case h_17 x i => rw [(h x (by simp)).1, (h i (by simp)).1]
  case h_18 x _ => rw [(h x (by simp)).1]
  case h_19 x t =>
    have hx := h x (by simp [Call.operands])
    rw [← hx.1]
    unfold stLen
    split
    · rfl
    · rw [slLen_congr hx.2]
  case h_20 x y _ => rw [(h x (by simp [Call.operands])).1, (h y (by simp [Call.operands])).1]
  case h_21 x y _ => rw [(h x (by simp [Call.operands])).1, (h y (by simp [Call.operands])).1]
  case h_22 f args _ =>
    have ha : ∀ x ∈ args.toList, Agree s s' x := fun x hx => h x (by simp [Call.operands]; exact .inr (by simpa using hx))
    unfold stCall
    simp only [dvs_congr ha, bindRes_congr ha]
  case h_23 => rfl
end Go.AM
