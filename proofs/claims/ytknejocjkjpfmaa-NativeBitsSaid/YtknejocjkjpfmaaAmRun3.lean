/- Part AmRun3 of the proof: own text. -/
import Derived.Test.YtknejocjkjpfmaaAmRun2
set_option linter.all false
namespace Go.AM
variable {P : Program} {ty : Ty} {Γ : Gam}
def rvOf (ty : Ty) (e : Env) (m : Mem) : ResultVar → Option RV
  | .tmp t => match e t with
    | some (.v x) => some (.v x)
    | some (.rd k l) => some (.view k l)
    | some (.ow key) => match m key with
      | some (.ints k l, _) => some (.fresh k l)
      | _ => none
    | some (.ows key n) => match m key with
      | some (.vals l, _) => some (.cells n l)
      | _ => none
    | some (.al key lo n) => match m key with
      | some (.ints k l, _) => if lo = 0 then some (.fresh k (l.take n)) else some (.view k ((l.drop lo).take n))
      | _ => none
    | _ => none
  | .cell t u => match e t, ty u with
    | some (.ref key off), some i => match m key with
      | some (c, _) => match ldAt c off i.size i.agg with
        | some pv => if ldB c off i.size i.agg then some (.v pv.2) else none
        | none => none
      | none => none
    | _, _ => none
def rvsOf (ty : Ty) (e : Env) (m : Mem) : List ResultVar → Option (List RV)
  | [] => some []
  | v :: vs => match rvOf ty e m v, rvsOf ty e m vs with
    | some r, some rs => some (r :: rs)
    | _, _ => none
def toView : RV → RV
  | .fresh k l => .view k l
  | r => r
/-- Views and new slices do not mix: then all are views. -/
def unmix (rs : List RV) : List RV := if rs.any RV.isView && rs.any RV.isFresh then rs.map toView else rs
def resOf (ty : Ty) (e : Env) (m : Mem) (vs : List ResultVar) : Option Res := match rvsOf ty e m vs with
  | some [r] => some (.one r)
  | some rs => if nodupN (rKeys e vs (unmix rs)) then some (.many (unmix rs)) else none
  | none => none
theorem rvOf_ok {e : Env} {m : Mem} {v : ResultVar} {r : RV} (h : rvOf ty e m v = some r) : rvOk ty e m v r := by
  cases v with
  | tmp t =>
    simp only [rvOf] at h
    split at h
    · rename_i x he; cases h; simp only [rvOk, he]
    · rename_i k l he; cases h; simp only [rvOk, he]; exact ⟨trivial, trivial⟩
    · rename_i key he
      split at h
      · rename_i k l fr hm; cases h; simp only [rvOk, he, hm]; exact ⟨trivial, trivial⟩
      · cases h
    · rename_i key n he
      split at h
      · rename_i l fr hm; cases h; simp only [rvOk, he, hm]; exact ⟨trivial, trivial⟩
      · cases h
    · rename_i key lo n he
      split at h
      · rename_i k l fr hm
        split at h
        · rename_i h0; cases h; simp only [rvOk, he, hm]; exact ⟨h0, trivial, trivial⟩
        · cases h; simp only [rvOk, he, hm]; exact ⟨trivial, trivial⟩
      · cases h
    · cases h
  | cell t u =>
    simp only [rvOf] at h
    split at h
    · rename_i key off i he hu
      split at h
      · rename_i c fr hm
        split at h
        · rename_i pv hl
          split at h
          · rename_i hb
            cases h
            simp only [rvOk, he, hu, hm, hl]
            exact ⟨ldB_ok hl hb, trivial⟩
          · cases h
        · cases h
      · cases h
    · cases h
theorem rvsOf_ok {e : Env} {m : Mem} : ∀ {vs : List ResultVar} {rs : List RV}, rvsOf ty e m vs = some rs → rvsOk ty e m vs rs ∧ vs.length = rs.length
  | [], rs, h => by cases h; exact ⟨trivial, rfl⟩
  | v :: vs, rs, h => by
    simp only [rvsOf] at h
    split at h
    · rename_i r rs' h1 h2
      cases h
      obtain ⟨h3, h4⟩ := rvsOf_ok h2
      exact ⟨⟨rvOf_ok h1, h3⟩, by simp [h4]⟩
    · cases h
theorem toView_ok {e : Env} {m : Mem} {v : ResultVar} {r : RV} (h : rvOk ty e m v r) : rvOk ty e m v (toView r) := by
  cases r with
  | fresh k l =>
    cases v with
    | cell t u => simp only [rvOk] at h
    | tmp t =>
      simp only [rvOk, toView] at h ⊢
      split at h
      · rename_i key he
        rw [he]; exact h
      · rename_i key lo n he
        rw [he]
        simp only
        split at h
        · rename_i k' l' fr hm
          obtain ⟨rfl, rfl, h3⟩ := h
          exact ⟨rfl, by simpa using h3⟩
        · exact h.elim
      · rename_i he
        rw [he]; exact h
      · exact h.elim
  | _ => exact h
theorem toViews_ok {e : Env} {m : Mem} : ∀ {vs : List ResultVar} {rs : List RV}, rvsOk ty e m vs rs → rvsOk ty e m vs (rs.map toView)
  | [], [], _ => trivial
  | [], _ :: _, h => h.elim
  | _ :: _, [], h => h.elim
  | v :: vs, r :: rs, h => ⟨toView_ok h.1, toViews_ok h.2⟩
theorem unmix_ok {e : Env} {m : Mem} {vs : List ResultVar} {rs : List RV} (h : rvsOk ty e m vs rs) : rvsOk ty e m vs (unmix rs) := by
  unfold unmix
  split
  · exact toViews_ok h
  · exact h
theorem unmix_len (rs : List RV) : (unmix rs).length = rs.length := by
  unfold unmix
  split <;> simp
theorem resOf_ok {e : Env} {m : Mem} {vs : List ResultVar} {r : Res} (h : resOf ty e m vs = some r) : resOk ty e m vs r := by
  unfold resOf at h
  split at h
  · rename_i r hr
    cases h
    obtain ⟨h1, h2⟩ := rvsOf_ok hr
    match vs, h1, h2 with
    | [v], h1, h2 => exact h1.1
  · rename_i rs hne hr
    split at h
    · rename_i hn
      cases h
      obtain ⟨h1, h2⟩ := rvsOf_ok hr
      refine ⟨fun h3 => ?_, unmix_ok h1, hn⟩
      rw [h2] at h3
      match rs, h3 with
      | [r], _ => exact hne r rfl
    · cases h
  · cases h
def runF (ty : Ty) (Γ : Gam) (fuel : Nat) (fn : Func) : CSpec := fun ds => match fn.body with
  | some c => if ds.length ≤ fn.ntmps then (match rev ty Γ (16 * fn.ntmps) fuel c (entry 0 ds) [] with
    | some (.normal, env, mem) => (resOf ty (lk env) (lk mem) fn.results.toList).map fun r => (True, r)
    | some (.ret, env, mem) => (resOf ty (lk env) (lk mem) fn.results.toList).map fun r => (True, r)
    | _ => none) else none
  | none => none
abbrev Bodies := List (Nat × Func)
/-- The functions, run so deep. -/
def GamN (ty : Ty) (fuel : Nat) (bodies : Bodies) (ext : Gam) : Nat → Gam
  | 0 => ext
  | n + 1 => (bodies.map fun p => (p.1, Fk.body, runF ty (GamN ty fuel bodies ext n) fuel p.2)) ++ ext
def BodiesOk (P : Program) (l : Bodies) : Prop := ∀ p ∈ l, P.funcs[p.1]? = some p.2 ∧ (p.2.name == "runtime.NumGoroutine") = false ∧ (∀ c, p.2.body = some c → dstsLt p.2.ntmps c = true)
def dstsB (fn : Func) : Bool := match fn.body with
  | some c => dstsLt fn.ntmps c
  | none => false
theorem dstsB_ok {fn : Func} (h : dstsB fn = true) (c : Code) (hc : fn.body = some c) : dstsLt fn.ntmps c = true := by
  unfold dstsB at h
  rw [hc] at h
  exact h
theorem dstsB_some {fn : Func} (h : dstsB fn = true) : fn.body.isSome = true := by
  unfold dstsB at h
  split at h
  · rename_i c hc; rw [hc]; rfl
  · cases h
theorem lk_bodies {g : Func → CSpec} : ∀ {l : Bodies} {f : Nat} {fk : Fk} {spec : CSpec}, lk (l.map fun p => (p.1, Fk.body, g p.2)) f = some (fk, spec) → ∃ fn, (f, fn) ∈ l ∧ fk = .body ∧ spec = g fn
  | [], f, fk, spec, h => by cases h
  | (j, fn) :: l, f, fk, spec, h => by
    simp only [List.map_cons, lk] at h
    split at h
    · rename_i he; subst he; cases h; exact ⟨fn, by simp, rfl, rfl⟩
    · obtain ⟨fn', h1, h2, h3⟩ := lk_bodies h; exact ⟨fn', by simp [h1], h2, h3⟩
theorem runF_sound {f fuel : Nat} {fn : Func} (hm : P.follows .mixedOrders = true) (hty : TysOk P ty) (hΓ : GamOk P Γ) (hF : Free Γ) (hf : P.funcs[f]? = some fn) (hn : (fn.name == "runtime.NumGoroutine") = false) (hN : ∀ c, fn.body = some c → dstsLt fn.ntmps c = true) (hb : fn.body.isSome = true) :
    Sound P f .body (runF ty Γ fuel fn) := by
  obtain ⟨c, hc⟩ := Option.isSome_iff_exists.1 hb
  refine sound_body hf hc hn hty hΓ (drawOk_ok hm hty hΓ) (hN c hc) fun ds p r hs hp => ?_
  unfold runF at hs
  rw [hc] at hs
  simp only at hs
  split at hs
  · rename_i hlen
    refine ⟨hlen, ?_⟩
    split at hs
    · rename_i env mem hr
      obtain ⟨r', h1, h2⟩ := Option.map_eq_some_iff.1 hs
      cases h2
      exact rev_ok hF _ _ _ _ _ _ _ hr _ (resOf_ok h1)
    · rename_i env mem hr
      obtain ⟨r', h1, h2⟩ := Option.map_eq_some_iff.1 hs
      cases h2
      exact rev_ok hF _ _ _ _ _ _ _ hr _ (resOf_ok h1)
    · cases hs
  · cases hs
theorem runF_free {fuel : Nat} {fn : Func} {ds : List DV} {p : Prop} {r : Res} (h : runF ty Γ fuel fn ds = some (p, r)) : p := by
  unfold runF at h
  split at h
  · split at h
    · split at h
      · obtain ⟨r', h1, h2⟩ := Option.map_eq_some_iff.1 h; cases h2; trivial
      · obtain ⟨r', h1, h2⟩ := Option.map_eq_some_iff.1 h; cases h2; trivial
      · cases h
    · cases h
  · cases h
theorem GamN_ok {fuel : Nat} {bodies : Bodies} {ext : Gam} (hm : P.follows .mixedOrders = true) (hty : TysOk P ty) (hext : GamOk P ext) (hfree : Free ext) (hbo : BodiesOk P bodies) (hsome : ∀ p ∈ bodies, p.2.body.isSome = true) :
    ∀ n, GamOk P (GamN ty fuel bodies ext n) ∧ Free (GamN ty fuel bodies ext n)
  | 0 => ⟨hext, hfree⟩
  | n + 1 => by
    obtain ⟨h1, h2⟩ := GamN_ok hm hty hext hfree hbo hsome (fuel := fuel) n
    constructor
    · intro f fk spec h
      simp only [GamN] at h
      rw [lk_app] at h
      rcases Option.or_eq_some_iff.1 h with h | ⟨_, h⟩
      · obtain ⟨fn, h3, rfl, rfl⟩ := lk_bodies h
        obtain ⟨h4, h5, h6⟩ := hbo _ h3
        exact runF_sound hm hty h1 h2 h4 h5 h6 (hsome _ h3)
      · exact hext f fk spec h
    · intro f fk spec ds p r h hs
      simp only [GamN] at h
      rw [lk_app] at h
      rcases Option.or_eq_some_iff.1 h with h | ⟨_, h⟩
      · obtain ⟨fn, h3, rfl, rfl⟩ := lk_bodies h
        exact runF_free hs
      · exact hfree f fk spec ds p r h hs
end Go.AM
