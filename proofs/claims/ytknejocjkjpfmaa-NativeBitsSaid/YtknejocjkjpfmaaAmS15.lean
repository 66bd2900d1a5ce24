/- Part AmS15 of the proof: own text. -/
import Derived.Test.YtknejocjkjpfmaaAmS14
set_option linter.all false
namespace Go.AM
variable {ty : Ty} {Γ : Gam}

/-- Two states that an operand cannot tell apart. -/
def Agree (s s' : St) (x : Operand) : Prop := opd s x = opd s' x ∧ ∀ key, keyOn (opd s x) = some key → s.m key = s'.m key
theorem lo_congr {s s' : St} : ∀ {lo : Option Operand}, (∀ x ∈ lo.toArray, Agree s s' x) → lo? s lo = lo? s' lo
  | none, _ => rfl
  | some x, h => by simp only [lo?, (h x (by simp)).1]
theorem hi_congr {s s' : St} {n : Nat} : ∀ {hi : Option Operand}, (∀ x ∈ hi.toArray, Agree s s' x) → hi? s n hi = hi? s' n hi
  | none, _ => rfl
  | some x, h => by simp only [hi?, (h x (by simp)).1]
theorem bracket_congr {s s' : St} {n : Nat} {lo hi : Option Operand} (h1 : ∀ x ∈ lo.toArray, Agree s s' x) (h2 : ∀ x ∈ hi.toArray, Agree s s' x) : bracket s n lo hi = bracket s' n lo hi := by
  unfold bracket; rw [lo_congr h1, hi_congr h2]
theorem fillParts_congr {s s' : St} {place : Nat → Option (Nat × Nat)} : ∀ {parts : List (Nat × Operand)} {cs : List Value}, (∀ p ∈ parts, Agree s s' p.2) → fillParts place s parts cs = fillParts place s' parts cs
  | [], _, _ => rfl
  | (i, x) :: r, cs, h => by
    have ih := fun cs => fillParts_congr (s := s) (s' := s') (place := place) (parts := r) (cs := cs) fun p hp => h p (List.mem_cons_of_mem _ hp)
    have hx : opd s x = opd s' x := (h (i, x) (List.mem_cons_self ..)).1
    simp only [fillParts, hx, ih]
theorem dvOf_congr {s s' : St} {x : AV} (h : ∀ key, keyOn x = some key → s.m key = s'.m key) : dvOf s x = dvOf s' x := by
  cases x <;> simp only [dvOf]
  · rw [h _ rfl]
  · rw [h _ rfl]
theorem dvs_congr {s s' : St} : ∀ {args : List Operand}, (∀ x ∈ args, Agree s s' x) → dvs s args = dvs s' args
  | [], _ => rfl
  | x :: r, h => by
    have hx := h x (by simp)
    have ih : dvs s r = dvs s' r := dvs_congr fun y hy => h y (List.mem_cons_of_mem _ hy)
    have h1 : dvOf s (opd s x) = dvOf s' (opd s' x) := by rw [dvOf_congr hx.2, hx.1]
    simp only [dvs, ih, h1]
theorem freezes_congr {s s' : St} : ∀ {args : List Operand}, (∀ x ∈ args, Agree s s' x) → freezes s args = freezes s' args
  | [], _ => rfl
  | x :: r, h => by
    have hx := h x (by simp)
    have : (keyOf (opd s x)).bind (fun k => (s.m k).map fun c => (k, c.1, true)) = (keyOf (opd s' x)).bind (fun k => (s'.m k).map fun c => (k, c.1, true)) := by
      rw [← hx.1]
      cases hk : opd s x <;> simp only [keyOf, Option.bind_none, Option.bind_some]
      · rw [hx.2 _ (by rw [hk]; rfl)]
      · rw [hx.2 _ (by rw [hk]; rfl)]
    have ih : freezes s r = freezes s' r := freezes_congr fun y hy => h y (List.mem_cons_of_mem _ hy)
    simp only [freezes, this, ih]
theorem bindRes_congr {s s' : St} {d : Nat} {args : List Operand} {p : Prop} {r : Res} (h : ∀ x ∈ args, Agree s s' x) : bindRes s d args p r = bindRes s' d args p r := by
  cases r <;> simp only [bindRes, freezes_congr h]
theorem slLen_congr {s s' : St} {x : AV} (h : ∀ key, keyOn x = some key → s.m key = s'.m key) : slLen s x = slLen s' x := by
  cases x
  case ow key => simp only [slLen]; rw [h _ rfl]
  case v x => unfold slLen; split <;> simp_all
  all_goals rfl
theorem aStep_congr {s s' : St} {d : Nat} {op : Op} (h : ∀ x ∈ op.operands, Agree s s' x) : aStep ty Γ s d op = aStep ty Γ s' d op := by
  unfold aStep
  split <;> simp only [Op.operands] at h
  case h_1 x => rw [(h x (by simp)).1]
  case h_2 x => rw [(h x (by simp)).1]
  case h_3 c a b => rw [(h c (by simp)).1, (h a (by simp)).1, (h b (by simp)).1]
  case h_4 => rfl
  case h_5 x => rw [(h x (by simp)).1]
  case h_6 t parts =>
    simp only [stBuild]
    have := fun p (hp : p ∈ parts.toList) => h p.2 (by simp only [List.mem_toArray, List.mem_map]; exact ⟨p, hp, rfl⟩)
    simp only [fillParts_congr this]
  case h_7 t n parts =>
    simp only [stBuildSlice]
    have := fun p (hp : p ∈ parts.toList) => h p.2 (by simp only [List.mem_toArray, List.mem_map]; exact ⟨p, hp, rfl⟩)
    simp only [fillParts_congr this]
  case h_8 t x =>
    have hx := h x (by simp)
    rw [← hx.1]
    unfold stLoad
    cases hk : opd s x
    case ref key off => simp only; rw [hx.2 _ (by rw [hk]; rfl)]
    all_goals rfl
  case h_9 x y _ => rw [(h x (by simp)).1, (h y (by simp)).1]
  case h_10 x => rw [(h x (by simp)).1]
  case h_11 x => rw [(h x (by simp)).1]
  case h_12 x y => rw [(h x (by simp)).1, (h y (by simp)).1]
  case h_13 t x lo hi =>
    have hx := h x (by simp)
    rw [← hx.1]
    have hb : ∀ n, bracket s n lo hi = bracket s' n lo hi := fun n => bracket_congr (fun y hy => h y (by simp at hy ⊢; simp [hy])) (fun y hy => h y (by simp at hy ⊢; simp [hy]))
    unfold stSlice
    split <;> (try rw [hb])
    · simp only [hb]; rw [hx.2 _ (by rw [‹opd s x = _›]; rfl)]
    · simp only [hb]; rw [hx.2 _ (by rw [‹opd s x = _›]; rfl)]
    · rfl
  case h_14 x _ => rw [(h x (by simp)).1]
  case h_15 x _ => rw [(h x (by simp)).1]
  case h_16 t x i =>
    have hx := h x (by simp)
    rw [← hx.1, (h i (by simp)).1]
    unfold stIndexAddr
    cases hk : opd s x
    case ow key => simp only; rw [hx.2 _ (by rw [hk]; rfl)]
    all_goals rfl
  case h_17 x i => rw [(h x (by simp)).1, (h i (by simp)).1]
  case h_18 x _ => rw [(h x (by simp)).1]
  case h_19 x t =>
    have hx := h x (by simp [Call.operands])
    rw [← hx.1]
    unfold stLen
    split
    · rfl
    · rw [slLen_congr hx.2]
  case h_20 x y _ => rw [(h x (by simp [Call.operands])).1, (h y (by simp [Call.operands])).1]
  case h_21 x y _ => rw [(h x (by simp [Call.operands])).1, (h y (by simp [Call.operands])).1]
  case h_22 f args _ =>
    have ha : ∀ x ∈ args.toList, Agree s s' x := fun x hx => h x (by simp [Call.operands]; exact .inr (by simpa using hx))
    unfold stCall
    simp only [dvs_congr ha, bindRes_congr ha]
  case h_23 => rfl
end Go.AM
