/- Part AmS11 of the proof: own text. -/
import Derived.Test.YtknejocjkjpfmaaAmAwp
set_option linter.all false
namespace Go.AM
open Go.RowKit (Below)
variable {P : Program} {V : Nat → Prop} {β : Nat → Option Nat} {w0 w w' : World} {N : Nat} {e : Env} {m : Mem} {a : Act}
variable {ty : Ty} {Γ : Gam} {env : List (Nat × AV)} {mem : List (Nat × Ct × Bool)}

theorem aOne_ok (hty : TysOk P ty) (hΓ : GamOk P Γ) {o : Oper} {k : List (Nat × AV) → List (Nat × Ct × Bool) → Prop} (h : Rep V w0 N (lk env) (lk mem) a w) (hd : ∀ d, o.dst = some d → d < N) (ho : aOne ty Γ o env mem k)
    {next : Act → World → Prop} {Q : Exit → Act → World → Prop} (hk : ∀ env mem a w, k env mem → Rep V w0 N (lk env) (lk mem) a w → next a w) : o.wp P a w next Q := by
  obtain ⟨β, hb⟩ := h
  obtain ⟨dst, op, t, pos, after, g⟩ := o
  cases dst with
  | some d =>
    cases hsp : isSp op with
    | true =>
      rw [aOne_sp hsp] at ho
      unfold bindP at ho
      split at ho
      · rename_i s hs
        obtain ⟨hp, hkk⟩ := ho
        obtain ⟨v, w', β', hr, hb', hv⟩ := sp_ok (d := some d) (tt := t) (pos := pos) (after := after) (g := g) hty hb hs hp
        unfold Oper.wp
        rw [hr, Oper.upon_value]
        exact hk _ _ _ _ hkk ⟨β', hb'.put (hd d rfl) hv⟩
      · exact ho.elim
    | false =>
    rw [aOne_dst hsp] at ho
    unfold bindO at ho
    split at ho
    · rename_i out hs
      obtain ⟨hp, hf, hkk⟩ := ho
      refine step_ok (d := some d) (tt := t) (pos := pos) (after := after) (g := g) hb hty hΓ hs hp hf next Q fun v w' β' hb' hv => ?_
      exact hk _ _ _ _ hkk ⟨β', hb'.put (hd d rfl) hv⟩
    · exact ho.elim
  | none =>
    cases op <;> simp only [aOne] at ho
    case store t' x y =>
      unfold bindS at ho
      split at ho
      · rename_i key p c hs
        obtain ⟨hp, hkk⟩ := ho
        obtain ⟨w', hr, hb'⟩ := store_ok (d := none) (tt := t) (pos := pos) (after := after) (g := g) hb hty hs hp
        unfold Oper.wp
        rw [hr, Oper.upon_skip]
        exact hk _ _ _ _ hkk ⟨β, hb'⟩
      · exact ho.elim

theorem Rep.same (h : Rep V w0 N (lk env) m a w) {k : Nat} {av : AV} (hv : ∀ β, RepB V β w0 N (lk env) m a w → ∃ v, a.tmps[k]? = some v ∧ RepA V β m w av v) : Rep V w0 N (lk ((k, av) :: env)) m a w := by
  obtain ⟨β, hb⟩ := h
  refine ⟨β, hb.fresh, hb.below, hb.size, hb.defers, hb.mem, hb.inj, fun j av' he => ?_⟩
  rw [lk_cons] at he
  by_cases hj : j = k
  · subst hj
    simp only [if_true] at he
    cases he
    exact hv β hb
  · rw [if_neg hj] at he
    exact hb.slots j av' he
theorem Rep.putUndef (h : Rep V w0 N (lk env) m a w) {o : Oper} (hd : ∀ d, o.dst = some d → d < N) : Rep V w0 N (lk (skipE o.dst env)) m (a.put o.dst undef) w := by
  obtain ⟨β, hb⟩ := h
  cases hdst : o.dst with
  | none => exact ⟨β, hb⟩
  | some d => exact ⟨β, hb.put (av := .v undef) (v := undef) (hd d hdst) rfl⟩

theorem guard_ok (hty : TysOk P ty) (hΓ : GamOk P Γ) {all : List Oper} {o : Oper} {env : List (Nat × AV)} {mem : List (Nat × Ct × Bool)} {a : Act} {w : World} {X X' Y Y' : Prop} (hr : Rep V w0 N (lk env) (lk mem) a w)
    {R : Prop} (h : bindG (aGuard all ⟨lk env, lk mem⟩ o.guard) X X' Y Y')
    (h1 : X → Region.wanted o (yielded all.toArray a.tmps) = true → R)
    (h2 : X' → Rep V w0 N (lk (gset all o.guard true ++ env)) (lk mem) a w → Region.wanted o (yielded all.toArray a.tmps) = true → R)
    (h3 : Y → Rep V w0 N (lk (gset all o.guard false ++ env)) (lk mem) a w → Region.wanted o (yielded all.toArray a.tmps) = false → R)
    (h4 : Y' → Region.wanted o (yielded all.toArray a.tmps) = false → R) : R := by
  cases hg : o.guard with
  | none =>
    simp only [hg, aGuard, bindG] at h
    exact h1 h (by simp [Region.wanted, hg])
  | some jb =>
    obtain ⟨j, b⟩ := jb
    simp only [hg, aGuard] at h h2 h3
    cases hsl : (all[j]?).bind (·.dst) with
    | none => simp only [hsl, bindG] at h
    | some sl =>
      simp only [hsl] at h
      have hslot : slotOf all j = sl := by simp [slotOf, hsl]
      have hy : ∀ v, a.tmps[sl]? = some v → yielded all.toArray a.tmps j = (match v with | .bool c => some c | _ => none) := fun v hv => by
        have h1 : ((all.toArray[j]?).bind (·.dst)).bind (a.tmps[·]?) = some v := by simp [hsl, hv]
        unfold yielded
        rw [h1]
        cases v <;> rfl
      split at h
      · rename_i c hlk
        simp only [bindG] at h
        have hval : ∀ β, RepB V β w0 N (lk env) (lk mem) a w → a.tmps[sl]? = some (.bool c) := fun β hb => by
          obtain ⟨v, hv, hrep⟩ := hb.slots sl _ hlk
          have : v = .bool c := hrep
          rw [hv, this]
        obtain ⟨β, hb⟩ := hr
        have hw : Region.wanted o (yielded all.toArray a.tmps) = (c == b) := by simp [Region.wanted, hg, hy _ (hval β hb)]
        cases hcb : (c == b) with
        | true =>
          have hceq : c = b := by simpa using hcb
          refine h2 (h.1 hcb) ?_ (by rw [hw, hcb])
          simp only [gset, hslot, if_true, List.cons_append, List.nil_append]
          exact Rep.same ⟨β, hb⟩ fun β' hb' => ⟨.bool c, hval β' hb', by rw [hceq]; exact rfl⟩
        | false =>
          have hceq : c = !b := by cases c <;> cases b <;> simp_all
          refine h3 (h.2 hcb) ?_ (by rw [hw, hcb])
          simp only [gset, hslot, Bool.false_eq_true, if_false, List.cons_append, List.nil_append]
          exact Rep.same ⟨β, hb⟩ fun β' hb' => ⟨.bool c, hval β' hb', by rw [hceq]; exact rfl⟩
      · rename_i vs hlk
        simp only [bindG] at h
        obtain ⟨β, hb⟩ := hr
        obtain ⟨v, hv, hrep⟩ := hb.slots sl _ hlk
        have : v = .tuple vs := hrep
        subst this
        exact h4 h (by simp [Region.wanted, hg, hy _ hv])
      · simp only [bindG] at h
theorem awpOps_step (hty : TysOk P ty) (hΓ : GamOk P Γ) {all : List Oper} {K : List (Nat × AV) → List (Nat × Ct × Bool) → Prop} {Q : Exit → Act → World → Prop} {o : Oper} {r : List Oper} (hd : ∀ d, o.dst = some d → d < N)
    {env : List (Nat × AV)} {mem : List (Nat × Ct × Bool)} {a : Act} {w : World} (h : awpOps ty Γ all K (o :: r) env mem) (hr : Rep V w0 N (lk env) (lk mem) a w) {next : Act → World → Prop}
    (hn : ∀ env mem a w, awpOps ty Γ all K r env mem → Rep V w0 N (lk env) (lk mem) a w → next a w) :
    if Region.wanted o (yielded all.toArray a.tmps) then o.wp P a w next Q ∨ (o.asks P a w ∧ LetsOut Q) else next (a.put o.dst undef) w := by
  unfold awpOps at h
  refine guard_ok hty hΓ hr h (fun h hw => ?_) (fun h hr hw => ?_) (fun h hr hw => ?_) (fun h hw => ?_)
  · rw [if_pos hw]; exact .inl (aOne_ok hty hΓ hr hd h hn)
  · rw [if_pos hw]; exact .inl (aOne_ok hty hΓ hr hd h hn)
  · rw [if_neg (by simp [hw])]; exact hn _ _ _ _ h (Rep.putUndef hr hd)
  · rw [if_neg (by simp [hw])]; exact hn _ _ _ _ h (Rep.putUndef hr hd)
theorem awpOps_ok (hty : TysOk P ty) (hΓ : GamOk P Γ) {all : List Oper} {K : List (Nat × AV) → List (Nat × Ct × Bool) → Prop} {Q : Exit → Act → World → Prop} (hK : ∀ env mem a w, K env mem → Rep V w0 N (lk env) (lk mem) a w → Q .normal a w) :
    ∀ (l : List Oper), (∀ o ∈ l, ∀ d, o.dst = some d → d < N) → ∀ (env : List (Nat × AV)) (mem : List (Nat × Ct × Bool)) (a : Act) (w : World), awpOps ty Γ all K l env mem → Rep V w0 N (lk env) (lk mem) a w → wpList P all.toArray Q l a w
  | [], _, env, mem, a, w, h, hr => hK env mem a w h hr
  | o :: r, hN, env, mem, a, w, h, hr => by
    have ih := awpOps_ok (all := all) hty hΓ hK r (fun o' ho' => hN o' (by simp [ho']))
    unfold wpList
    exact awpOps_step hty hΓ (hN o (by simp)) h hr ih
end Go.AM
