/- Part AmS12 of the proof: own text. -/
import Derived.Test.YtknejocjkjpfmaaAmS11
import Derived.Deep.LoopGhost
set_option linter.all false
namespace Go.AM
open Go.RowKit (Below)
variable {P : Program} {V : Nat → Prop} {β : Nat → Option Nat} {w0 w w' : World} {N : Nat} {e : Env} {m : Mem} {a : Act}
variable {ty : Ty} {Γ : Gam} {env : List (Nat × AV)} {mem : List (Nat × Ct × Bool)}

/-- What is owed of a state, said of the machine's own. -/
def lift (V : Nat → Prop) (w0 : World) (N : Nat) (Q : Post) : Exit → Act → World → Prop
  | .normal, a, w => ∃ env mem, Q .normal env mem ∧ Rep V w0 N (lk env) (lk mem) a w
  | .exit id, a, w => ∃ env mem, Q (.exit id) env mem ∧ Rep V w0 N (lk env) (lk mem) a w
  | .ret, a, w => ∃ env mem, Q .ret env mem ∧ Rep V w0 N (lk env) (lk mem) a w
  | _, _, _ => False
def dstsLt (N : Nat) : Code → Bool
  | .region _ ops _ => ops.all fun o => match o.dst with | some d => decide (d < N) | none => true
  | .seq a b => dstsLt N a && dstsLt N b
  | .cond _ a b => dstsLt N a && dstsLt N b
  | .block _ c => dstsLt N c
  | .loop c => dstsLt N c
  | _ => true
/-- The drawn regions. -/
def DrawOk (P : Program) (ty : Ty) (Γ : Gam) : Prop := ∀ (V : Nat → Prop) (w0 : World) (N id : Nat) (ops : Array Oper) (Q : Post) (env : List (Nat × AV)) (mem : List (Nat × Ct × Bool)) (a : Act) (w : World),
  (∀ o ∈ ops, ∀ d, o.dst = some d → d < N) → drawOk ops.toList = true → awpD ty Γ ops.toList mem (Q .normal) 0 [] [] ops.toList env mem → Rep V w0 N (lk env) (lk mem) a w → (Code.region id ops true).wp P (lift V w0 N Q) a w

theorem awp_ok (hty : TysOk P ty) (hΓ : GamOk P Γ) (hdr : DrawOk P ty Γ) (V : Nat → Prop) (w0 : World) (N : Nat) : ∀ (c : Code), dstsLt N c = true → ∀ (Q : Post) (env : List (Nat × AV)) (mem : List (Nat × Ct × Bool)) (a : Act) (w : World),
    awp ty Γ c Q env mem → Rep V w0 N (lk env) (lk mem) a w → c.wp P (lift V w0 N Q) a w := by
  intro c
  induction c with
  | skip => intro _ Q env mem a w h hr; exact wp_skip ⟨env, mem, h, hr⟩
  | ret => intro _ Q env mem a w h hr; exact wp_ret ⟨env, mem, h, hr⟩
  | exit id => intro _ Q env mem a w h hr; exact wp_exit ⟨env, mem, h, hr⟩
  | seq x y ihx ihy =>
    intro hN Q env mem a w h hr
    simp only [dstsLt, Bool.and_eq_true] at hN
    refine wp_seq (wp_mono (ihx hN.1 _ env mem a w h hr) ?_)
    intro e a' w' hq
    cases e with
    | normal => obtain ⟨env', mem', ⟨e0, m0, h0, h1⟩, h2⟩ := hq; exact ihy hN.2 Q e0 m0 a' w' h1 (h0 _ _ _ _ _ h2)
    | exit id => obtain ⟨env', mem', h1, h2⟩ := hq; exact ⟨env', mem', h1, h2⟩
    | ret => obtain ⟨env', mem', h1, h2⟩ := hq; exact ⟨env', mem', h1, h2⟩
    | _ => exact hq.elim
  | block id x ih =>
    intro hN Q env mem a w h hr
    refine wp_block (wp_mono (ih hN _ env mem a w h hr) ?_)
    intro e a' w' hq
    cases e with
    | normal => exact hq
    | exit j =>
      obtain ⟨env', mem', h1, h2⟩ := hq
      simp only [Exit.inBlock]
      simp only [blockP] at h1
      split
      · rename_i hj; rw [if_pos hj] at h1; exact ⟨env', mem', h1, h2⟩
      · rename_i hj; rw [if_neg hj] at h1; exact ⟨env', mem', h1, h2⟩
    | ret => exact hq
    | _ => exact hq.elim
  | cond x p q ihp ihq =>
    intro hN Q env mem a w h hr
    simp only [dstsLt, Bool.and_eq_true] at hN
    simp only [awp] at h
    unfold aCond at h
    split at h
    · rename_i c hx
      obtain ⟨β, hb⟩ := hr
      refine wp_cond_split (opd_v hb hx) (fun hc => ihp hN.1 Q env mem a w (h.1 hc) ⟨β, hb⟩) (fun hc => ihq hN.2 Q env mem a w (h.2 hc) ⟨β, hb⟩)
    · exact h.elim
  | region id ops dr =>
    intro hN Q env mem a w h hr
    have hN' : ∀ o ∈ ops, ∀ d, o.dst = some d → d < N := fun o ho d hd => by
      simp only [dstsLt, Array.all_eq_true_iff_forall_mem] at hN
      have := hN o ho
      rw [hd] at this
      simpa using this
    cases dr with
    | false =>
      refine wp_region_list ?_
      have := awpOps_ok (P := P) (all := ops.toList) hty hΓ (K := Q .normal) (Q := lift V w0 N Q) (fun env mem a w hk hr => ⟨env, mem, hk, hr⟩) ops.toList (fun o ho => hN' o (by simpa using ho)) env mem a w h hr
      simpa using this
    | true => exact hdr V w0 N id ops Q env mem a w hN' h.1 h.2 hr
  | loop x ih =>
    intro hN Q env mem a w h hr
    obtain ⟨ι, E, M, μ, i0, h0, hround⟩ := h
    refine wp_loop_ghost (fun n a w => ∃ i, μ i = n ∧ Rep V w0 N (lk (E i)) (lk (M i)) a w) (μ i0) ⟨i0, rfl, h0 _ _ _ _ _ hr⟩ ?_
    rintro n a w ⟨i, rfl, hri⟩
    refine wp_mono (ih hN _ _ _ a w (hround i) hri) ?_
    intro e a' w' hq
    cases e with
    | normal => obtain ⟨env', mem', ⟨j, h1, h2⟩, h3⟩ := hq; exact ⟨μ j, h2, j, rfl, h1 _ _ _ _ _ h3⟩
    | exit id => exact hq
    | ret => exact hq
    | _ => exact hq.elim
  | _ => intro _ Q env mem a w h; simp only [awp] at h
end Go.AM
