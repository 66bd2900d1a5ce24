/- Part AmEq of the proof: own text. -/
import Derived.Test.YtknejocjkjpfmaaAmRun3
import Derived.Laws.StructEq
set_option linter.all false
namespace Go.AM
variable {P : Program} (w : World)
theorem run_partI {el : TypeId} {k : IntKind} (hel : P.underlying el = some (.int k)) (hs : (sizeOf el).run P w = .ok 1 w) (hag : (isAgg el).run P w = .ok false w) (xs : Array Value) (i : Nat) (v : Value) (hv : xs[i]? = some v) :
    (part el xs i).run P w = .ok v w := by
  unfold part
  simp [Sem.run_bind, hs, hag, hv]
theorem eq4 {t el : TypeId} {k : IntKind} (ht : P.underlying t = some (.array 4 el)) (hel : P.underlying el = some (.int k)) (hs : ∀ w, (sizeOf el).run P w = .ok 1 w) (hag : ∀ w, (isAgg el).run P w = .ok false w) (a0 a1 a2 a3 b0 b1 b2 b3 : Int) :
    (Op.equal t (.agg #[.int k a0, .int k a1, .int k a2, .int k a3]) (.agg #[.int k b0, .int k b1, .int k b2, .int k b3])).run P w = .ok ((a0 == b0) && ((a1 == b1) && ((a2 == b2) && ((a3 == b3) && true)))) w := by
  have e1 : ∀ (a b : Int), (Op.equalIn (9998 + 1) el (.int k a) (.int k b)).run P w = .ok (a == b) w := fun a b => run_equalIn_int w 9998 el k k a b hel
  have p : ∀ (xs : Array Value) (i : Nat) (v : Value), xs[i]? = some v → (part el xs i).run P w = .ok v w := fun xs i v hv => run_partI w hel (hs w) (hag w) xs i v hv
  simp only [Op.equal, Op.maxDepth]
  unfold Op.equalIn
  simp only [Sem.run_bind, run_underlying ht, Result.andThen_ok, hs]
  simp [Std.Legacy.Range.forIn_eq_forIn_range', List.range', Sem.run_bind]
  have q : ∀ (v0 v1 v2 v3 : Value), (part el #[v0, v1, v2, v3] 0).run P w = .ok v0 w ∧ (part el #[v0, v1, v2, v3] 1).run P w = .ok v1 w ∧ (part el #[v0, v1, v2, v3] 2).run P w = .ok v2 w ∧ (part el #[v0, v1, v2, v3] 3).run P w = .ok v3 w :=
    fun v0 v1 v2 v3 => ⟨p _ 0 _ rfl, p _ 1 _ rfl, p _ 2 _ rfl, p _ 3 _ rfl⟩
  simp only [q, e1, Result.andThen_ok, Sem.run_bind]
  cases h0 : (a0 == b0) <;> cases h1 : (a1 == b1) <;> cases h2 : (a2 == b2) <;> cases h3 : (a3 == b3) <;> simp_all
theorem fits4 {k : IntKind} {l : List Value} (h : fits [.int k, .int k, .int k, .int k] l = true) : ∃ a0 a1 a2 a3, l = [.int k a0, .int k a1, .int k a2, .int k a3] := by
  have step : ∀ {r : List LK} {l : List Value}, fits (.int k :: r) l = true → ∃ a l', l = .int k a :: l' ∧ fits r l' = true := by
    intro r l h
    cases l with
    | nil => simp [fits] at h
    | cons x l =>
      cases x <;> simp only [fits, Bool.false_eq_true] at h
      rename_i k' a
      simp only [Bool.and_eq_true, beq_iff_eq] at h
      exact ⟨a, l, by rw [h.1], h.2⟩
  obtain ⟨a0, l0, rfl, h0⟩ := step h
  obtain ⟨a1, l1, rfl, h1⟩ := step h0
  obtain ⟨a2, l2, rfl, h2⟩ := step h1
  obtain ⟨a3, l3, rfl, h3⟩ := step h2
  cases l3 with
  | nil => exact ⟨a0, a1, a2, a3, rfl⟩
  | cons x l => simp [fits] at h3
theorem eq4_ok {t el : TypeId} {k : IntKind} {P : Program} (ht : P.underlying t = some (.array 4 el)) (hel : P.underlying el = some (.int k)) (hs : ∀ w, (sizeOf el).run P w = .ok 1 w) (hag : ∀ w, (isAgg el).run P w = .ok false w)
    (xs ys : Array Value) (b : Bool) (w : World) (hx : fits [.int k, .int k, .int k, .int k] xs.toList = true) (hy : fits [.int k, .int k, .int k, .int k] ys.toList = true) (hb : leafEq xs.toList ys.toList = some b) : (Op.equal t (.agg xs) (.agg ys)).run P w = .ok b w := by
  obtain ⟨a0, a1, a2, a3, e1⟩ := fits4 hx
  obtain ⟨b0, b1, b2, b3, e2⟩ := fits4 hy
  obtain ⟨xs⟩ := xs
  obtain ⟨ys⟩ := ys
  simp only at e1 e2
  subst e1 e2
  have := eq4 w ht hel hs hag a0 a1 a2 a3 b0 b1 b2 b3
  rw [this]
  simp [leafEq] at hb
  simp [← hb]
end Go.AM
