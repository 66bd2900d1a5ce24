/- Part AmS14 of the proof: own text. -/
import Derived.Test.YtknejocjkjpfmaaAmS13
set_option linter.all false
namespace Go.AM
open Go.RowKit (Below)
variable {P : Program} {V : Nat → Prop} {β : Nat → Option Nat} {w0 w w' : World} {N : Nat} {e : Env} {m : Mem} {a : Act}
variable {ty : Ty} {Γ : Gam} {env : List (Nat × AV)} {mem : List (Nat × Ct × Bool)}

def getR (a : Act) : ResultVar → Sem Value
  | .tmp t => pure (a.tmps.getD t undef)
  | .cell c t => do loadVar t (← asAddr (a.tmps.getD c undef))
theorem nodupN_ok : ∀ {l : List Nat}, nodupN l = true → l.Nodup
  | [], _ => List.nodup_nil
  | x :: r, h => by
    simp only [nodupN, Bool.and_eq_true, Bool.not_eq_true', List.contains_eq_mem, decide_eq_false_iff_not] at h
    exact List.nodup_cons.2 ⟨h.1, nodupN_ok h.2⟩
theorem run_results (hty : TysOk P ty) (h : RepB V β w0 N e m a w) {args : List Value} (hV : ∀ b, V b → w0.heap.size ≤ b ∨ ∃ u ∈ args, liveBlock u = some b) :
    ∀ (xs : List ResultVar) (rs : List RV), rvsOk ty e m xs rs → ∃ us, (xs.mapM (getR a)).run P w = .ok us w ∧ us.length = xs.length ∧ RepRs w0 w args rs us ∧
      ∃ ps : List (Nat × Nat), (∀ p ∈ ps, β p.1 = some p.2 ∧ (m p.1).isSome = true) ∧ freshBs rs us = ps.map (·.2) ∧ ∃ sub : List Nat, (ps.map (·.1)).Sublist (rKeys e xs rs)
  | [], [], _ => ⟨[], by simp, rfl, trivial, [], by simp, rfl, [], by simp [rKeys]⟩
  | [], _ :: _, hr => hr.elim
  | _ :: _, [], hr => hr.elim
  | x :: xs, r :: rs, hr => by
    obtain ⟨v, hv, hrep, hfr⟩ := run_result (args := args) hty h hV hr.1
    obtain ⟨us, hus, hlen, hreps, ps, hps, hfb, sub, hsub⟩ := run_results hty h hV xs rs hr.2
    have hv' : (getR a x).run P w = .ok v w := by cases x <;> exact hv
    refine ⟨v :: us, by simp [List.mapM_cons, hv', hus], by simp [hlen], ⟨hrep, hreps⟩, ?_⟩
    have hkeys : rKeys e (x :: xs) (r :: rs) = rKeys e [x] [r] ++ rKeys e xs rs := by
      cases x <;> cases r <;> simp [rKeys]
    cases r with
    | v y => exact ⟨ps, hps, by simpa [freshBs] using hfb, sub, by rw [hkeys]; exact hsub.trans (List.sublist_append_right _ _)⟩
    | view k l => exact ⟨ps, hps, by simpa [freshBs] using hfb, sub, by rw [hkeys]; exact hsub.trans (List.sublist_append_right _ _)⟩
    | fresh k l =>
      rcases hfr rfl with h0 | ⟨b, key, h1, h2, h3, h4⟩
      · exact ⟨ps, hps, by simp [freshBs, h0, hfb], sub, by rw [hkeys]; exact hsub.trans (List.sublist_append_right _ _)⟩
      · refine ⟨(key, b) :: ps, ?_, by simp [freshBs, h1, hfb], sub, by rw [hkeys, h4]; exact List.Sublist.cons_cons _ hsub⟩
        intro p hp
        rcases List.mem_cons.1 hp with rfl | hp
        · exact ⟨h2, h3⟩
        · exact hps p hp
    | cells k l =>
      rcases hfr rfl with h0 | ⟨b, key, h1, h2, h3, h4⟩
      · exact ⟨ps, hps, by simp [freshBs, h0, hfb], sub, by rw [hkeys]; exact hsub.trans (List.sublist_append_right _ _)⟩
      · refine ⟨(key, b) :: ps, ?_, by simp [freshBs, h1, hfb], sub, by rw [hkeys, h4]; exact List.Sublist.cons_cons _ hsub⟩
        intro p hp
        rcases List.mem_cons.1 hp with rfl | hp
        · exact ⟨h2, h3⟩
        · exact hps p hp
theorem nodup_blocks (h : RepB V β w0 N e m a w) : ∀ {ps : List (Nat × Nat)}, (∀ p ∈ ps, β p.1 = some p.2 ∧ (m p.1).isSome = true) → (ps.map (·.1)).Nodup → (ps.map (·.2)).Nodup
  | [], _, _ => List.nodup_nil
  | p :: ps, hp, hn => by
    simp only [List.map_cons, List.nodup_cons] at hn ⊢
    refine ⟨fun hm => ?_, nodup_blocks h (fun q hq => hp q (by simp [hq])) hn.2⟩
    obtain ⟨q, hq, he⟩ := List.mem_map.1 hm
    obtain ⟨h1, h2⟩ := hp p (by simp)
    obtain ⟨h3, h4⟩ := hp q (by simp [hq])
    have := h.inj q.1 p.1 p.2 h4 h2 (he ▸ h3) h1
    exact hn.1 (List.mem_map.2 ⟨q, hq, this⟩)
def avOf : DV → AV
  | .v x => .v x
  | .sl k l => .rd k l
theorem lk_entry : ∀ (ds : List DV) (i k : Nat) (av : AV), lk (entry i ds) k = some av → i ≤ k ∧ ∃ d, ds[k - i]? = some d ∧ av = avOf d
  | [], i, k, av, h => by cases h
  | d :: r, i, k, av, h => by
    have key : lk (entry i (d :: r)) k = if k = i then some (avOf d) else lk (entry (i + 1) r) k := by cases d <;> rfl
    rw [key] at h
    split at h
    · rename_i hk; subst hk; exact ⟨Nat.le_refl _, d, by simp, (Option.some.inj h).symm⟩
    · obtain ⟨h1, d', h2, h3⟩ := lk_entry r (i + 1) k av h
      refine ⟨by omega, d', ?_, h3⟩
      rw [show k - i = (k - (i + 1)) + 1 by omega]
      simpa using h2
theorem RepDs.get {w : World} : ∀ {ds : List DV} {vs : List Value}, RepDs w ds vs → ds.length = vs.length ∧ ∀ (j : Nat) (d : DV), ds[j]? = some d → ∃ v, vs[j]? = some v ∧ RepD w d v
  | [], [], _ => ⟨rfl, fun j d h => by simp at h⟩
  | [], _ :: _, h => h.elim
  | _ :: _, [], h => h.elim
  | d :: ds, v :: vs, h => by
    obtain ⟨h1, h2⟩ := RepDs.get h.2
    refine ⟨by simp [h1], fun j d' hj => ?_⟩
    cases j with
    | zero => simp at hj; subst hj; exact ⟨v, by simp, h.1⟩
    | succ j => obtain ⟨u, h3, h4⟩ := h2 j d' (by simpa using hj); exact ⟨u, by simpa using h3, h4⟩
theorem sound_body {f : Nat} {fn : Func} {c : Code} {spec : CSpec} (hf : P.funcs[f]? = some fn) (hb : fn.body = some c) (hn : (fn.name == "runtime.NumGoroutine") = false) (hty : TysOk P ty) (hΓ : GamOk P Γ) (hdr : DrawOk P ty Γ) (hN : dstsLt fn.ntmps c = true)
    (H : ∀ ds p r, spec ds = some (p, r) → p → ds.length ≤ fn.ntmps ∧ awp ty Γ c (retP ty fn.results.toList r) (entry 0 ds) []) : Sound P f .body spec := by
  refine ⟨fn, hf, hn, by simp [hb], fun ds p r hs hp w vs hrep => ?_⟩
  obtain ⟨hlen, hwp⟩ := H ds p r hs hp
  obtain ⟨hl2, hget⟩ := RepDs.get hrep
  refine calls_of_wp hf hb ?_
  let V : Nat → Prop := fun b => w.heap.size ≤ b ∨ ∃ u ∈ vs, liveBlock u = some b
  have hinit : Rep V w fn.ntmps (lk (entry 0 ds)) (lk []) { tmps := vs.toArray ++ Array.replicate (fn.ntmps - vs.toArray.size) undef, defers := [] } w := by
    refine ⟨fun _ => none, ⟨fun b hb => .inl hb, Below.refl _ _, by simp; omega, rfl, (fun key c fr hk => by cases hk), (fun k k' b hk => by cases hk), fun k av he => ?_⟩⟩
    obtain ⟨_, d, hd, rfl⟩ := lk_entry ds 0 k av he
    simp only [Nat.sub_zero] at hd
    obtain ⟨v, hv, hr⟩ := hget k d hd
    refine ⟨v, ?_, ?_⟩
    · have hk : k < vs.length := (List.getElem?_eq_some_iff.1 hv).1
      rw [Array.getElem?_append_left (by simpa using hk)]
      simpa using hv
    · cases d with
      | v x => exact hr
      | sl k' l =>
        obtain ⟨A, cap, h1, h2, h3, h4⟩ := hr
        refine ⟨A, cap, h1, h2, h3, fun hl => ?_⟩
        obtain ⟨ad, h5, h6⟩ := h4 hl
        refine ⟨ad, h5, ⟨.inr ⟨v, List.mem_of_getElem? hv, ?_⟩, fun key c hk => by cases hk⟩, h6⟩
        rw [h1, h5]
        simp [liveBlock, List.length_pos_iff.2 hl]
  refine wp_mono (awp_ok hty hΓ hdr V w fn.ntmps c hN _ _ _ _ _ hwp hinit) ?_
  have fin : ∀ (env : List (Nat × AV)) (mem : List (Nat × Ct × Bool)) (a' : Act) (w' : World), resOk ty (lk env) (lk mem) fn.results.toList r → Rep V w fn.ntmps (lk env) (lk mem) a' w' →
      a'.defers = [] ∧ ∃ v, (results fn a'.tmps).run P w' = .ok v w' ∧ (fun e w' => ∃ v, e = Ending.returned v ∧ Below w.heap.size w w' ∧ RepRes w w' vs r v) (Ending.returned v) w' := by
    rintro env mem a' w' hq ⟨β, hbx⟩
    refine ⟨hbx.defers, ?_⟩
    have hres : ∀ us, (fn.results.toList.mapM (getR a')).run P w' = .ok us w' → (results fn a'.tmps).run P w' = .ok (if h : us.toArray.size = 1 then us.toArray[0] else .tuple us.toArray) w' := fun us hu => by
      have he : results fn a'.tmps = ((fn.results.mapM (getR a')) >>= fun vs => pure (if h : vs.size = 1 then vs[0] else .tuple vs)) := by
        unfold results
        congr 1
      rw [he, Array.mapM_eq_mapM_toList]
      simp only [Sem.run_bind, Sem.run_map, hu, Result.andThen_ok, Sem.run_pure]
    cases r with
    | one r =>
      simp only [resOk] at hq
      split at hq
      · rename_i x hx
        obtain ⟨v, hv, hrep', _⟩ := run_result (args := vs) hty hbx (fun b hb => hb) hq
        have hv' : (getR a' x).run P w' = .ok v w' := by cases x <;> exact hv
        have := hres [v] (by rw [hx]; simp [List.mapM_cons, hv'])
        exact ⟨v, by simpa using this, v, rfl, hbx.below, hrep'⟩
      · exact hq.elim
    | many rs =>
      obtain ⟨h1, h2, h3⟩ := hq
      obtain ⟨us, hus, hlen', hreps, ps, hps, hfb, sub, hsub⟩ := run_results (args := vs) hty hbx (fun b hb => hb) _ _ h2
      have := hres us hus
      rw [dif_neg (by simp [hlen']; simpa using h1)] at this
      exact ⟨_, this, _, rfl, hbx.below, us, rfl, hreps, by rw [hfb]; exact nodup_blocks hbx hps (List.Sublist.nodup hsub (nodupN_ok h3))⟩
  intro ex a' w' hq
  cases ex with
  | normal => obtain ⟨env, mem, h1, h2⟩ := hq; exact fin env mem a' w' h1 h2
  | ret => obtain ⟨env, mem, h1, h2⟩ := hq; exact fin env mem a' w' h1 h2
  | exit id => obtain ⟨env, mem, h1, h2⟩ := hq; exact h1.elim
  | _ => exact hq.elim
end Go.AM
