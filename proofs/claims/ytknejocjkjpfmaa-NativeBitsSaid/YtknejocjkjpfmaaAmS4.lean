/- Part AmS4 of the proof: own text. -/
import Derived.Test.YtknejocjkjpfmaaAmS3
set_option linter.all false
namespace Go.AM
open Go.RowKit (Below)
variable {P : Program} {V : Nat → Prop} {β : Nat → Option Nat} {w0 w w' : World} {N : Nat} {e : Env} {m : Mem} {a : Act}
variable {ty : Ty} {Γ : Gam} {d : Option Tmp} {tt : TypeId} {pos : String} {after : Array Edge} {g : Option (Nat × Bool)}

theorem wrap_signed (k : IntKind) (n : Int) (hs : sgn k = true) (h : inR k n) : k.wrap n = n := by
  cases k <;> simp only [sgn, Bool.false_eq_true] at hs <;> simp only [inR] at h <;> simp [IntKind.wrap, IntKind.bits, IntKind.signed] <;> split <;> omega
theorem wrap_unsigned (k : IntKind) (n : Int) (hs : sgn k = false) : k.wrap n = n % pow2 k := by
  cases k <;> simp only [sgn, Bool.true_eq_false] at hs <;> simp [IntKind.wrap, IntKind.bits, IntKind.signed, pow2]
theorem arr_ok {k : IntKind} {n : Int} {p : Prop} {v : Value} (h : arr k n = (p, v)) (hp : p) : v = .int k (k.wrap n) := by
  unfold arr at h
  split at h
  · rename_i hs
    simp only [Prod.mk.injEq] at h
    obtain ⟨rfl, rfl⟩ := h
    rw [wrap_signed k n hs hp]
  · rename_i hs
    simp only [Prod.mk.injEq] at h
    obtain ⟨rfl, rfl⟩ := h
    rw [wrap_unsigned k n (by simpa using hs)]
theorem eqGuard_int (o : BinOp) (t : TypeId) (x y : Operand) (u v : Value) (w : World) (h : ∀ a b, ¬ (u = .agg a ∧ v = .agg b)) (h' : u ≠ .nilIface) : (eqGuard o t x y u v).run P w = .ok () w := by
  have key : ∀ (q : Sem Unit), (match u, v with
      | .nilIface, .nilIface => q
      | .agg _, .agg _ => do
        if !(← program).eqGuardType (← program).depth t then return
        if ← Op.eqGuardIn Op.maxDepth t u v then unsupported (.noEntry "binop/eql: two nil values of an interface type with methods, in a part of a struct or an array")
      | _, _ => pure ()).run P w = .ok () w := by
    intro q
    split
    · exact absurd rfl h'
    · rename_i a b; exact absurd ⟨rfl, rfl⟩ (h a b)
    · rfl
  cases o <;> first | exact key _ | rfl
theorem run_bin (o : BinOp) (t : TypeId) (u v : Value) {p : Prop} {x : Value} (h : bin o u v = some (p, x)) (hp : p) (w : World) (hb : ∀ b c, u = .bool b → v = .bool c → P.underlying t = some .bool) : (binOp o t u v).run P w = .ok x w := by
  unfold bin at h
  split at h
  · rename_i k a k' b
    split at h
    · simp only [Option.some.injEq, Prod.mk.injEq] at h
      obtain ⟨rfl, rfl⟩ := h
      obtain ⟨hb0, hr⟩ := hp
      simp only [binOp, Op.shift, if_neg (show ¬ b < 0 by omega), Sem.run_pure, Result.ok.injEq, Value.int.injEq, true_and, and_true]
      cases hs : sgn k with
      | true => simp only [if_true]; exact wrap_signed k _ hs (hr hs)
      | false => simp only [Bool.false_eq_true, if_false]; exact wrap_unsigned k _ hs
    · simp only [Option.some.injEq, Prod.mk.injEq] at h
      obtain ⟨rfl, rfl⟩ := h
      simp only [binOp, Op.shift, if_neg (show ¬ b < 0 by omega), Sem.run_pure, Result.ok.injEq, Value.int.injEq, true_and, and_true]
      exact Int.fdiv_eq_ediv_of_nonneg _ (by exact Int.le_of_lt (Int.pow_pos (by decide)))
    · rename_i hn1 hn2
      split at h
      · rename_i hkk
        subst hkk
        split at h <;> try (simp only [Option.some.injEq] at h)
        · have := arr_ok h hp; subst this; simp [binOp, Op.intArith]
        · have := arr_ok h hp; subst this; simp [binOp, Op.intArith]
        · have := arr_ok h hp; subst this; simp [binOp, Op.intArith]
        · simp only [Prod.mk.injEq] at h
          obtain ⟨rfl, rfl⟩ := h
          have hw : k.wrap (a.tdiv b) = a.tdiv b := by
            cases hs : sgn k with
            | true => exact wrap_signed k _ hs hp.2
            | false =>
              rw [wrap_unsigned k _ hs]
              have := hp.2
              cases k <;> simp only [sgn, Bool.true_eq_false] at hs <;> simp only [inR, pow2] at this ⊢ <;> omega
          simp [binOp, Op.intDiv, hp.1, hw]
        · simp only [Prod.mk.injEq] at h
          obtain ⟨rfl, rfl⟩ := h
          simp [binOp, Op.intDiv, hp]
        all_goals first
          | (simp only [Prod.mk.injEq] at h; obtain ⟨rfl, rfl⟩ := h; simp [binOp, Op.intCmp, Op.intBits, bits])
          | cases h
      · cases h
  · rename_i a b
    split at h <;> (try simp only [Option.some.injEq, Prod.mk.injEq] at h)
    · obtain ⟨rfl, rfl⟩ := h
      have : ¬ (((a.size + b.size : Nat) : Int) > IntKind.i64.max) := by
        have hm : IntKind.i64.max = 9223372036854775807 := by decide
        rw [hm]; omega
      simp only [binOp, Op.stringOp, if_neg this, Sem.run_pure]
    · obtain ⟨rfl, rfl⟩ := h; simp [binOp, Op.stringOp]
    · obtain ⟨rfl, rfl⟩ := h; simp [binOp, Op.stringOp]
    · cases h
  · rename_i b c
    have hb' := hb b c rfl rfl
    split at h <;> (try simp only [Option.some.injEq, Prod.mk.injEq] at h)
    · obtain ⟨rfl, rfl⟩ := h; exact run_eql_bool w t b c hb'
    · obtain ⟨rfl, rfl⟩ := h; exact run_neq_bool w t b c hb'
    · cases h
  · rename_i k a k' b
    split at h
    · rename_i hkk
      subst hkk
      obtain ⟨r, hr, h⟩ := Option.map_eq_some_iff.1 h
      simp only [Prod.mk.injEq] at h
      obtain ⟨rfl, rfl⟩ := h
      unfold fbin at hr
      split at hr
      case h_7 => obtain ⟨q, hq, rfl⟩ := Option.map_eq_some_iff.1 hr; exact run_float_arith w _ t k a b q hq
      case h_8 => obtain ⟨q, hq, rfl⟩ := Option.map_eq_some_iff.1 hr; exact run_float_arith w _ t k a b q hq
      case h_9 => obtain ⟨q, hq, rfl⟩ := Option.map_eq_some_iff.1 hr; exact run_float_arith w _ t k a b q hq
      case h_10 => obtain ⟨q, hq, rfl⟩ := Option.map_eq_some_iff.1 hr; exact run_float_arith w _ t k a b q hq
      case h_11 => cases hr
      all_goals (cases hr; simp [binOp, Op.floatCmp])
    · cases h
  · cases h
end Go.AM
