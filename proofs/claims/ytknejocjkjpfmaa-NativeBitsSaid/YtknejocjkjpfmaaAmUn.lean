/- Part AmUn of the proof: own text. -/
import Derived.Test.YtknejocjkjpfmaaAmExt
import Derived.Test.YtknejocjkjpfmaaLN
set_option linter.all false
namespace Go.AM
variable {ty : Ty} {Γ : Gam}
/-- Many ways come together here. -/
theorem awp_seq_j {Q : Post} {env : List (Nat × AV)} {mem : List (Nat × Ct × Bool)} {a b : Code} {ι : Type} (E : ι → List (Nat × AV)) (M : ι → List (Nat × Ct × Bool)) (hb : ∀ j, awp ty Γ b Q (E j) (M j))
    (ha : ∀ K : List (Nat × AV) → List (Nat × Ct × Bool) → Prop, (∀ env mem j, Ent env mem (E j) (M j) → K env mem) → awp ty Γ a (thenP K Q) env mem) : awp ty Γ (.seq a b) Q env mem := by
  refine awp_mono (c := a) (Q' := thenP (awp ty Γ b Q) Q) (fun x e m hx => ?_) (ha (fun e m => ∃ j, Ent e m (E j) (M j)) fun e m j h => ⟨j, h⟩)
  cases x with
  | normal =>
    obtain ⟨e0, m0, h0, j, h1⟩ := hx
    exact ⟨E j, M j, h0.trans h1, hb j⟩
  | exit j => exact hx
  | ret => exact hx
theorem awp_seq_e {Q : Post} {env : List (Nat × AV)} {mem : List (Nat × Ct × Bool)} {a b : Code} (E : List (Nat × AV)) (M : List (Nat × Ct × Bool)) (hb : awp ty Γ b Q E M)
    (ha : ∀ K : List (Nat × AV) → List (Nat × Ct × Bool) → Prop, (∀ env mem, Ent env mem E M → K env mem) → awp ty Γ a (thenP K Q) env mem) : awp ty Γ (.seq a b) Q env mem :=
  awp_seq_j (ι := Unit) (fun _ => E) (fun _ => M) (fun _ => hb) fun K hK => ha K fun env mem h => hK env mem () h
/-- A loop of at most n rounds, round by round. -/
def unrP (c : Code) (Q : Post) : Nat → Post
  | 0 => fun e env mem => match e with
    | .normal => False
    | e => Q e env mem
  | n + 1 => fun e env mem => match e with
    | .normal => awp ty Γ c (unrP c Q n) env mem
    | e => Q e env mem
theorem awp_unroll {c : Code} {Q : Post} (n : Nat) {env : List (Nat × AV)} {mem : List (Nat × Ct × Bool)} (h : awp ty Γ c (unrP (ty := ty) (Γ := Γ) c Q n) env mem) : awp ty Γ (.loop c) Q env mem := by
  refine ⟨{x : List (Nat × AV) × List (Nat × Ct × Bool) × Nat // awp ty Γ c (unrP (ty := ty) (Γ := Γ) c Q x.2.2) x.1 x.2.1}, fun x => x.1.1, fun x => x.1.2.1, fun x => x.1.2.2, ⟨(env, mem, n), h⟩, fun _ _ _ _ _ hr => hr, fun i => ?_⟩
  obtain ⟨⟨e, m, k⟩, hi⟩ := i
  refine awp_mono (fun x e' m' hx => ?_) hi
  cases k with
  | zero =>
    cases x with
    | normal => exact hx.elim
    | exit j => exact hx
    | ret => exact hx
  | succ k =>
    cases x with
    | normal => exact ⟨⟨(e', m', k), hx⟩, fun _ _ _ _ _ hr => hr, Nat.lt_succ_self k⟩
    | exit j => exact hx
    | ret => exact hx
end Go.AM
