/- Part AmS10 of the proof: own text. -/
import Derived.Test.YtknejocjkjpfmaaAmS9
set_option linter.all false
namespace Go.AM
open Go.RowKit (Below)
variable {P : Program} {V : Nat → Prop} {β : Nat → Option Nat} {w0 w w' : World} {N : Nat} {e : Env} {m : Mem} {a : Act}
variable {ty : Ty} {Γ : Gam} {d : Option Tmp} {tt : TypeId} {pos : String} {after : Array Edge} {g : Option (Nat × Bool)}

/-- Whatever stands behind the operation, it is owed at the state that the operation leaves. -/
def StepOk (P : Program) (V : Nat → Prop) (o : Oper) (w0 : World) (N : Nat) (e : Env) (m' : Mem) (a : Act) (w : World) (av : AV) : Prop :=
  ∀ (next : Act → World → Prop) (Q : Exit → Act → World → Prop), (∀ v w' β', RepB V β' w0 N e m' a w' → RepA V β' m' w' av v → next (a.put o.dst v) w') → o.wp P a w next Q
theorem Yes.ok {o : Oper} {m' : Mem} {av : AV} (h : Yes P V o w0 N e m' a w av) : StepOk P V o w0 N e m' a w av := by
  obtain ⟨v, w', β', hr, hb, hv⟩ := h
  intro next Q hn
  unfold Oper.wp
  rw [hr, Oper.upon_value]
  exact hn v w' β' hb hv

theorem src_ok {t : TypeId} {i : TI} (hh : TyOk P t i) : (P.underlying t).isSome = true := by
  have := hh.kind
  cases hk : i.kind <;> simp only [hk] at this <;> first
    | exact this.elim
    | (obtain ⟨h1, _⟩ := this; simp [h1])
    | (obtain ⟨_, fs, h1, _⟩ := this; simp [h1])
theorem slTy_ok (hty : TysOk P ty) {t : TypeId} (h : slTy ty t = true) : ∃ i el ei, TyOk P t i ∧ i.kind = .slice el ∧ TyOk P el ei ∧ ei.size = 1 := by
  unfold slTy at h
  split at h
  · rename_i i hi
    split at h
    · rename_i el hel
      split at h
      · rename_i ei hei
        exact ⟨i, el, ei, hty _ _ hi, hel, hty _ _ hei, by simpa using h⟩
      · cases h
    · cases h
  · cases h
theorem strTy_ok (hty : TysOk P ty) {t : TypeId} (h : strTy ty t = true) : ∃ i, TyOk P t i ∧ i.kind = .str := by
  unfold strTy at h
  split at h
  · rename_i i hi
    split at h
    · rename_i hk; exact ⟨i, hty _ _ hi, hk⟩
    · cases h
  · cases h
theorem boolOk_ok (hty : TysOk P ty) {t : TypeId} {u : Value} (h : boolOk ty t u = true) (b : Bool) (hu : u = .bool b) : P.underlying t = some .bool := by
  subst hu
  simp only [boolOk] at h
  split at h
  · rename_i i hi
    split at h
    · rename_i hk
      have := (hty _ _ hi).kind
      rw [hk] at this
      exact this.1
    · cases h
  · cases h
theorem bracket_ok {s : St} {n : Nat} {lo ho : Option Operand} {lh : Int × Int} (h : bracket s n lo ho = some lh) : lo? s lo = some lh.1 ∧ hi? s n ho = some lh.2 := by
  unfold bracket at h
  split at h
  · rename_i l hh h1 h2; cases h; exact ⟨h1, h2⟩
  · cases h
theorem fillParts_length (place : Nat → Option (Nat × Nat)) (s : St) : ∀ (parts : List (Nat × Operand)) (cs cs' : List Value), fillParts place s parts cs = some cs' → cs'.length = cs.length
  | [], cs, cs', h => by simp [fillParts] at h; rw [h]
  | (i, x) :: r, cs, cs', h => by
    simp only [fillParts] at h
    split at h
    · split at h
      · rw [fillParts_length place s r _ cs' h, length_setL]
      · cases h
    · cases h
theorem lk_one {key : Nat} {c : Ct} {mem : List (Nat × Ct × Bool)} : lk ([(key, c, false)] ++ mem) = fun k => if k = key then some (c, false) else lk mem k := by
  funext k; rfl
theorem fresh_one {dd : Nat} {key : Nat} {c : Ct} (h : freshM m dd [(key, c, false)]) : m key = none := by
  rcases h.1 with h1 | h1
  · cases h1
  · exact h1.2.2
theorem valOf_some {av : AV} {v : Value} (h : valOf av = some v) : av = .v v := by
  unfold valOf at h; split at h <;> simp_all
theorem resolve_func {f : Nat} {args : Array Operand} {ts : Array TypeId} (w : World) : ((execOp a.eval ⟨d, .call ⟨.value (.func f), args, ts⟩, tt, pos, after, g⟩).run P w) = (callFunc f (args.map a.eval)).run P w := by
  simp [execOp, resolve, Deferred.ofValue, Act.eval, invoke]

variable {mem : List (Nat × Ct × Bool)}
theorem call_ok (h : RepB V β w0 N e (lk mem) a w) (hΓ : GamOk P Γ) {f dd : Nat} {args : Array Operand} {ts : Array TypeId} {out : Out} (hs : stCall Γ ⟨e, lk mem⟩ dd f args.toList = some out) (hp : out.pre) (hf : freshM (lk mem) dd out.mem) :
    StepOk P V ⟨d, .call ⟨.value (.func f), args, ts⟩, tt, pos, after, g⟩ w0 N e (lk (out.mem ++ mem)) a w out.av := by
  unfold stCall at hs
  obtain ⟨⟨fk, spec⟩, h1, hs⟩ := Option.bind_eq_some_iff.1 hs
  obtain ⟨ds, h2, hs⟩ := Option.bind_eq_some_iff.1 hs
  obtain ⟨⟨p, r⟩, h3, hs⟩ := Option.map_eq_some_iff.1 hs
  have hsound := hΓ f fk spec h1
  have hds := dvs_ok h h2
  have hargs : (args.toList.map a.eval).toArray = args.map a.eval := by apply Array.ext'; simp
  have hpre : p := by
    subst hs
    cases r with
    | one r => exact hp
    | many rs => exact hp.1
  -- what is owed behind the call
  have fin : ∀ v w', Ext w w' → RepRes w w' (args.toList.map a.eval) r v → ∃ β', RepB V β' w0 N e (lk (out.mem ++ mem)) a w' ∧ RepA V β' (lk (out.mem ++ mem)) w' out.av v := by
    intro v w' hx hr
    cases r with
    | one r =>
      have hr' : RepRs w w' (args.toList.map a.eval) [r] [v] := ⟨hr, trivial⟩
      have hnd : (freshBs [r] [v]).Nodup := by
        cases r <;> simp only [freshBs]
        · simp
        · cases ownB v <;> simp
        · simp
        · cases ownB v <;> simp
      have hvf : ¬ ([r].any RV.isView = true ∧ [r].any RV.isFresh = true) := by cases r <;> simp [RV.isView, RV.isFresh]
      have hmm : outMems (16 * dd) 0 [r] = outMem (16 * dd) r := by simp [outMems]
      have hany : [r].any RV.isView = r.isView := by simp
      subst hs
      simp only [bindRes] at hf ⊢
      obtain ⟨β', hb, hl⟩ := bind_results h h2 hx hr' hnd hvf (key := 16 * dd) (dd := dd) (fz := if r.isView then freezes ⟨e, lk mem⟩ args.toList else []) (by rw [hany]) (by rw [hmm]; exact hf)
      rw [hmm] at hb hl
      exact ⟨β', hb, RepA.of_S hl.1⟩
    | many rs =>
      obtain ⟨us, rfl, hr', hnd⟩ := hr
      subst hs
      simp only [bindRes] at hf hp ⊢
      obtain ⟨β', hb, hl⟩ := bind_results h h2 hx hr' hnd hp.2 (key := 16 * dd) (dd := dd) rfl hf
      exact ⟨β', hb, us, rfl, hl⟩
  intro next Q hn
  cases fk with
  | body =>
    obtain ⟨fn, hf1, hf2, hf3, hc⟩ := hsound
    have hcall := hc ds p r h3 hpre w _ hds
    rw [hargs] at hcall
    unfold Oper.wp
    rw [resolve_func]
    have hrun : (callFunc f (args.map a.eval)).run P w = .ok (.enter f (args.map a.eval)) w := by
      have hne : fn.name ≠ "runtime.NumGoroutine" := by simpa using hf2
      have hb3 : fn.body ≠ none := fun hh => by simp [hh] at hf3
      simp [callFunc, hf1, hne, hb3]
    rw [hrun, Oper.upon_enter]
    refine hcall.mono ?_
    rintro e' w' ⟨v, rfl, hbel, hr⟩
    obtain ⟨β', hb, hv⟩ := fin v w' (Ext.of_below hbel) hr
    exact hn v w' β' hb hv
  | ext =>
    obtain ⟨v, hrun, hr, _⟩ := hsound ds p r h3 hpre w _ hds
    rw [hargs] at hrun
    unfold Oper.wp
    rw [resolve_func, hrun, Oper.upon_value]
    obtain ⟨β', hb, hv⟩ := fin v w (Ext.refl w) hr
    exact hn v w β' hb hv

theorem step_ok (h : RepB V β w0 N e (lk mem) a w) (hty : TysOk P ty) (hΓ : GamOk P Γ) {dd : Nat} {op : Op} {out : Out} (hs : aStep ty Γ ⟨e, lk mem⟩ dd op = some out) (hp : out.pre) (hf : freshM (lk mem) dd out.mem) :
    StepOk P V ⟨d, op, tt, pos, after, g⟩ w0 N e (lk (out.mem ++ mem)) a w out.av := by
  unfold aStep at hs
  split at hs
  · cases hs; exact (yes_move h _).ok
  · cases hs; exact (yes_assign h _).ok
  · split at hs
    · rename_i hc; cases hs; exact (yes_pick h hc).ok
    · cases hs
  · obtain ⟨i, hi, rfl⟩ := Option.map_eq_some_iff.1 hs
    rw [lk_one]
    exact (yes_alloc h (hty _ _ hi) (fresh_one hf)).ok
  · obtain ⟨v, hv, hs⟩ := Option.bind_eq_some_iff.1 hs
    split at hs
    · rename_i hc
      cases hs
      rw [lk_one]
      exact (yes_box h (valOf_some hv) hc (fresh_one hf)).ok
    · cases hs
  · unfold stBuild at hs
    obtain ⟨i, hi, hs⟩ := Option.bind_eq_some_iff.1 hs
    split at hs
    · rename_i fs hk
      obtain ⟨cs, hcs, rfl⟩ := Option.map_eq_some_iff.1 hs
      exact (yes_build_struct h hty (hty _ _ hi) hk hcs).ok
    · rename_i n el hk
      obtain ⟨ei, hei, hs⟩ := Option.bind_eq_some_iff.1 hs
      obtain ⟨cs, hcs, rfl⟩ := Option.map_eq_some_iff.1 hs
      exact (yes_build_arr h (hty _ _ hi) hk (hty _ _ hei) hcs).ok
    · cases hs
  · unfold stBuildSlice at hs
    obtain ⟨i, hi, hs⟩ := Option.bind_eq_some_iff.1 hs
    split at hs
    · rename_i el hk
      obtain ⟨ei, hei, hs⟩ := Option.bind_eq_some_iff.1 hs
      split at hs
      · rename_i k hki
        split at hs
        · rename_i hn
          obtain ⟨cs, hcs, hs⟩ := Option.bind_eq_some_iff.1 hs
          obtain ⟨l, hl, rfl⟩ := Option.map_eq_some_iff.1 hs
          rw [lk_one]
          exact (yes_buildSlice h (hty _ _ hi) hk (hty _ _ hei) hki hn hcs hl (fresh_one hf) (by rw [fillParts_length _ _ _ _ _ hcs]; simp)).ok
        · cases hs
      · split at hs
        · rename_i hn
          obtain ⟨cs, hcs, hs⟩ := Option.bind_eq_some_iff.1 hs
          split at hs
          · rename_i hok
            cases hs
            rw [lk_one]
            exact (yes_buildSliceS h (hty _ _ hi) hk (hty _ _ hei) hn.1 hn.2.1 hn.2.2 hcs hok (fresh_one hf)).ok
          · cases hs
        · cases hs
      · cases hs
    · cases hs
  · unfold stLoad at hs
    obtain ⟨i, hi, hs⟩ := Option.bind_eq_some_iff.1 hs
    split at hs
    · rename_i key off hx
      obtain ⟨⟨c, fr⟩, hk, hs⟩ := Option.bind_eq_some_iff.1 hs
      obtain ⟨⟨p, v⟩, hl, rfl⟩ := Option.map_eq_some_iff.1 hs
      exact (yes_load_ref h (hty _ _ hi) hx hk hl hp).ok
    · rename_i v hx
      split at hs
      · rename_i hag; cases hs; exact (yes_load_pt h (hty _ _ hi) hx hag).ok
      · cases hs
    · cases hs
  · rename_i o t x y t'
    generalize hx : opd ⟨e, lk mem⟩ x = ax at hs
    generalize hy : opd ⟨e, lk mem⟩ y = ay at hs
    unfold stBin at hs
    split at hs
    · rename_i u v
      obtain ⟨i, hi, hs⟩ := Option.bind_eq_some_iff.1 hs
      split at hs
      · rename_i hc
        split at hs
        · obtain ⟨b, hb, rfl⟩ := Option.map_eq_some_iff.1 hs
          exact (yes_eq_agg h (hty _ _ hi) hx hy hc.1 hc.2.1 hc.2.2 hb).ok
        · obtain ⟨b, hb, rfl⟩ := Option.map_eq_some_iff.1 hs
          exact (yes_neq_agg h (hty _ _ hi) hx hy hc.1 hc.2.1 hc.2.2 hb).ok
        · cases hs
      · cases hs
    · rename_i u v _
      split at hs
      · rename_i hbk
        obtain ⟨⟨p, r⟩, hb, rfl⟩ := Option.map_eq_some_iff.1 hs
        exact (yes_bin h hx hy hb hp (fun b c hu _ => boolOk_ok hty hbk b hu)).ok
      · cases hs
    · cases hs
  · unfold stUn at hs
    split at hs
    · rename_i u hx
      obtain ⟨⟨p, r⟩, hb, rfl⟩ := Option.map_eq_some_iff.1 hs
      exact (yes_un h hx hb hp).ok
    · cases hs
  · unfold stConv at hs
    obtain ⟨i0, hi0, hs⟩ := Option.bind_eq_some_iff.1 hs
    obtain ⟨i, hi, hs⟩ := Option.bind_eq_some_iff.1 hs
    split at hs
    · rename_i k u hk hx
      obtain ⟨⟨p, r⟩, hb, rfl⟩ := Option.map_eq_some_iff.1 hs
      exact (yes_convert h (hty _ _ hi) (src_ok (hty _ _ hi0)) hk hx hb hp).ok
    · rename_i k u hk hx
      obtain ⟨r, hb, rfl⟩ := Option.map_eq_some_iff.1 hs
      exact (yes_convertF h (hty _ _ hi) (src_ok (hty _ _ hi0)) hk hx hb).ok
    · cases hs
  · rename_i t x y
    generalize hx : opd ⟨e, lk mem⟩ x = ax at hs
    generalize hy : opd ⟨e, lk mem⟩ y = ay at hs
    unfold stMake at hs
    obtain ⟨i, hi, hs⟩ := Option.bind_eq_some_iff.1 hs
    split at hs
    · rename_i el hk
      obtain ⟨ei, hei, hs⟩ := Option.bind_eq_some_iff.1 hs
      split at hs
      · rename_i hb
        split at hs
        · cases hs
          rw [lk_one]
          exact (yes_makeSlice h (hty _ _ hi) hk (hty _ _ hei) ‹ei.kind = .int _› hx hy hp hb (fresh_one hf)).ok
        · cases hs
      · cases hs
    · cases hs
  · rename_i t x lo ho
    generalize hx : opd ⟨e, lk mem⟩ x = ax at hs
    unfold stSlice at hs
    split at hs
    · split at hs
      · rename_i hst
        obtain ⟨lh, hlh, rfl⟩ := Option.map_eq_some_iff.1 hs
        obtain ⟨i, hi, hk⟩ := strTy_ok hty hst
        obtain ⟨h1, h2⟩ := bracket_ok hlh
        exact (yes_slice_str h hi hk hx h1 h2 hp).ok
      · cases hs
    · split at hs
      · rename_i hst
        obtain ⟨lh, hlh, rfl⟩ := Option.map_eq_some_iff.1 hs
        obtain ⟨i, el, ei, hi, hk, hei, h1'⟩ := slTy_ok hty hst
        obtain ⟨h1, h2⟩ := bracket_ok hlh
        exact (yes_slice_rd h hi hk hei h1' hx h1 h2 hp).ok
      · cases hs
    · split at hs
      · rename_i hst
        obtain ⟨⟨c, fr⟩, hc, hs⟩ := Option.bind_eq_some_iff.1 hs
        obtain ⟨lh, hlh, rfl⟩ := Option.map_eq_some_iff.1 hs
        obtain ⟨i, el, ei, hi, hk, hei, h1'⟩ := slTy_ok hty hst
        obtain ⟨h1, h2⟩ := bracket_ok hlh
        exact (yes_slice_ow h hi hk hei h1' hx hc h1 h2 hp).ok
      · cases hs
    · split at hs
      · rename_i hst
        obtain ⟨lh, hlh, rfl⟩ := Option.map_eq_some_iff.1 hs
        obtain ⟨i, el, ei, hi, hk, hei, h1'⟩ := slTy_ok hty hst
        obtain ⟨h1, h2⟩ := bracket_ok hlh
        exact (yes_slice_al h hi hk hei h1' hx h1 h2 hp).ok
      · cases hs
    · split at hs
      · rename_i hst
        obtain ⟨lh, hlh, rfl⟩ := Option.map_eq_some_iff.1 hs
        obtain ⟨i, el, ei, hi, hk, hei, h1'⟩ := slTy_ok hty hst
        obtain ⟨h1, h2⟩ := bracket_ok hlh
        exact (yes_slice_nil (u := 0) h hi hk hei h1' hx h1 h2 hp).ok
      · cases hs
    · obtain ⟨i, hi, hs⟩ := Option.bind_eq_some_iff.1 hs
      split at hs
      · rename_i n el hk
        obtain ⟨ei, hei, hs⟩ := Option.bind_eq_some_iff.1 hs
        split at hs
        · rename_i hc
          obtain ⟨⟨c, fr⟩, hcc, hs⟩ := Option.bind_eq_some_iff.1 hs
          obtain ⟨lh, hlh, rfl⟩ := Option.map_eq_some_iff.1 hs
          obtain ⟨h1, h2⟩ := bracket_ok hlh
          exact (yes_slice_arr h (hty _ _ hi) hk (hty _ _ hei) hc.1 hc.2 hx h1 h2 hp.1 hcc hp.2).ok
        · cases hs
      · cases hs
    · cases hs
  · unfold stFieldAddr at hs
    obtain ⟨i, hi, hs⟩ := Option.bind_eq_some_iff.1 hs
    split at hs
    · rename_i fs key off hk hx
      obtain ⟨⟨o, ft⟩, hfo, rfl⟩ := Option.map_eq_some_iff.1 hs
      exact (yes_fieldAddr h (hty _ _ hi) hk hx hfo).ok
    · cases hs
  · unfold stField at hs
    obtain ⟨i, hi, hs⟩ := Option.bind_eq_some_iff.1 hs
    split at hs
    · rename_i fs cs hk hx
      obtain ⟨⟨o, ft⟩, hfo, hs⟩ := Option.bind_eq_some_iff.1 hs
      obtain ⟨fi, hfi, hs⟩ := Option.bind_eq_some_iff.1 hs
      obtain ⟨⟨p, v⟩, hl, rfl⟩ := Option.map_eq_some_iff.1 hs
      exact (yes_field h (hty _ _ hi) hk hx hfo (hty _ _ hfi) hl hp).ok
    · cases hs
  · rename_i t x y
    unfold stIndexAddr at hs
    obtain ⟨j, hj, hs⟩ := Option.bind_eq_some_iff.1 hs
    split at hs
    · rename_i k l hx
      split at hs
      · rename_i hst
        cases hs
        obtain ⟨i, el, ei, hi, hk, hei, h1'⟩ := slTy_ok hty hst
        exact (yes_indexAddr_rd h hi hk hei h1' hx hj hp).ok
      · cases hs
    · rename_i key hx
      split at hs
      · rename_i hst
        obtain ⟨⟨c, fr⟩, hc, rfl⟩ := Option.map_eq_some_iff.1 hs
        obtain ⟨i, el, ei, hi, hk, hei, h1'⟩ := slTy_ok hty hst
        exact (yes_indexAddr_ow h hi hk hei h1' hx hc hj hp).ok
      · cases hs
    · rename_i key lo n hx
      split at hs
      · rename_i hst
        cases hs
        obtain ⟨i, el, ei, hi, hk, hei, h1'⟩ := slTy_ok hty hst
        exact (yes_indexAddr_al h hi hk hei h1' hx hj hp).ok
      · cases hs
    · rename_i key n hx
      obtain ⟨i, hi, hs⟩ := Option.bind_eq_some_iff.1 hs
      split at hs
      · rename_i el hk
        obtain ⟨ei, hei, rfl⟩ := Option.map_eq_some_iff.1 hs
        exact (yes_indexAddr_ows h (hty _ _ hi) hk (hty _ _ hei) hx hj hp).ok
      · cases hs
    · rename_i key off hx
      obtain ⟨i, hi, hs⟩ := Option.bind_eq_some_iff.1 hs
      split at hs
      · rename_i n el hk
        obtain ⟨ei, hei, rfl⟩ := Option.map_eq_some_iff.1 hs
        exact (yes_indexAddr_arr h (hty _ _ hi) hk hx hj (hty _ _ hei) hp).ok
      · cases hs
    · cases hs
  · rename_i t x y
    unfold stIndex at hs
    obtain ⟨j, hj, hs⟩ := Option.bind_eq_some_iff.1 hs
    split at hs
    · rename_i b hx
      split at hs
      · rename_i hst
        cases hs
        obtain ⟨i, hi, hk⟩ := strTy_ok hty hst
        exact (yes_index_str h hi hk hx hj hp).ok
      · cases hs
    · rename_i cs hx
      obtain ⟨i, hi, hs⟩ := Option.bind_eq_some_iff.1 hs
      split at hs
      · rename_i n el hk
        obtain ⟨ei, hei, hs⟩ := Option.bind_eq_some_iff.1 hs
        obtain ⟨⟨p, v⟩, hl, rfl⟩ := Option.map_eq_some_iff.1 hs
        exact (yes_index_agg h (hty _ _ hi) hk hx hj (hty _ _ hei) hl hp.1 hp.2).ok
      · cases hs
    · cases hs
  · unfold stExtract at hs
    split at hs
    · rename_i l hx
      obtain ⟨av, hi, rfl⟩ := Option.map_eq_some_iff.1 hs
      exact (yes_extract h hx hi).ok
    · cases hs
  · rename_i x t
    generalize hx : opd ⟨e, lk mem⟩ x = ax at hs
    unfold stLen at hs
    split at hs
    · split at hs
      · rename_i hst
        cases hs
        obtain ⟨i, hi, hk⟩ := strTy_ok hty hst
        exact (yes_len_str h hi hk hx).ok
      · cases hs
    · split at hs
      · rename_i hst
        obtain ⟨n, hn, rfl⟩ := Option.map_eq_some_iff.1 hs
        obtain ⟨i, el, ei, hi, hk, hei, h1'⟩ := slTy_ok hty hst
        exact (yes_len_sl h hi hk (by rw [hx]; exact hn)).ok
      · cases hs
  · rename_i x y ts
    generalize hx : opd ⟨e, lk mem⟩ x = ax at hs
    generalize hy : opd ⟨e, lk mem⟩ y = ay at hs
    unfold stMax at hs
    split at hs
    · cases hs; exact (yes_max h hx hy).ok
    · cases hs
  · rename_i x y ts
    generalize hx : opd ⟨e, lk mem⟩ x = ax at hs
    generalize hy : opd ⟨e, lk mem⟩ y = ay at hs
    unfold stMin at hs
    split at hs
    · cases hs; exact (yes_min h hx hy).ok
    · cases hs
  · exact call_ok h hΓ hs hp hf
  · cases hs
end Go.AM
