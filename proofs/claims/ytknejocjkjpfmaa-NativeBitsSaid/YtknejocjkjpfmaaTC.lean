/- Part TC of the proof: own text. -/
import Derived.Test.YtknejocjkjpfmaaT2
import Derived.Test.YtknejocjkjpfmaaAmExt
import Derived.WalkKit
import Derived.Lib.SliceRun
set_option linter.all false
set_option maxRecDepth 20000
namespace Go.Proofs.AMT
open Go.AM
open Go.RowKit (Below)
def sClone : CSpec := fun ds => match ds with
  | [.sl .u64 l] => some (l.length ≤ 100000000, .one (.fresh .u64 l))
  | [.v (.slice none 0 0)] => some (True, .one (.fresh .u64 []))
  | _ => none
def sCloneB : CSpec := fun ds => match ds with
  | [.sl .u64 l] => if l.length ≤ 100000000 then some (True, .one (.fresh .u64 l)) else none
  | [.v (.slice none 0 0)] => some (True, .one (.fresh .u64 []))
  | _ => none
theorem wpList_app_run {P : Program} {w w' : World} {ops : Array Oper} {rest : List Oper} {o : Oper} {a : Act} {Q : Exit → Act → World → Prop} (hgd : o.guard = none) (x y : Operand) (t : TypeId)
    (ho : o.op = .call { callee := .builtin .append, args := #[x, y], argTypes := #[t, t] }) {v : Value}
    (h : (Builtin.append_ #[t, t] o.type #[a.eval x, a.eval y]).run P w = .ok v w') (h2 : wpList P ops Q rest (a.put o.dst v) w') : wpList P ops Q (o :: rest) a w := by
  refine wpList_plain hgd fun K hK => ?_
  unfold Oper.wp execOp
  simp only [ho, resolve, invoke, builtin, Sem.run_bind, Sem.run_pure, Result.andThen_ok, List.map_toArray, List.map_cons, List.map_nil, h]
  exact hK _ _ h2
theorem clone_nil (w : World) (n c : Nat) : Calls Try.prog 70 #[.slice none n c] w fun e w' => e = .returned (.slice none 0 0) ∧ w' = w := by
  have q42 : ∀ (w : World) (a : Option Addr) (n c n' c' : Nat), (binOp .eql 42 (.slice a n c) (.slice none n' c')).run Try.prog w = .ok (.bool a.isNone) w := fun w a n c n' c' => Lib.run_eql_slice_nil w _ _ a n c n' c' Try.underlying42
  go_enter Try.func70, Try.ntmps70
  go_wp2
  go_ret
  exact ⟨rfl, rfl⟩
theorem clone_some (w : World) (ad : Addr) (n c : Nat) {v : Value} {w' : World} (hrun : (Builtin.append_ #[42, 42] 42 #[.slice (some ⟨w.heap.size, 0, none⟩) 0 0, .slice (some ad) n c]).run Try.prog (w.alloc (Obj.cells #[] 26)) = .ok v w') :
    Calls Try.prog 70 #[.slice (some ad) n c] w fun e w2 => e = .returned v ∧ w2 = w' := by
  have q42 : ∀ (w : World) (a : Option Addr) (n c n' c' : Nat), (binOp .eql 42 (.slice a n c) (.slice none n' c')).run Try.prog w = .ok (.bool a.isNone) w := fun w a n c n' c' => Lib.run_eql_slice_nil w _ _ a n c n' c' Try.underlying42
  go_enter Try.func70, Try.ntmps70
  go_wp2_with (at_builtin; refine wpList_app_run rfl _ _ 42 rfl hrun ?_)
  go_ret
  exact ⟨rfl, rfl⟩
theorem clone_sound : Sound Try.prog 70 .body sClone := by
  refine ⟨Try.f70, Try.func70, by kernel_rfl, by kernel_rfl, fun ds p r hs hp w vs hrep => ?_⟩
  have hi : Try.prog.info? 26 = some Try.t26 := by kernel_rfl
  have nilCase : ∀ (l : List Int) (n c : Nat), l = [] → vs = [.slice none n c] → Calls Try.prog 70 vs.toArray w (fun e w' => ∃ v, e = .returned v ∧ Below w.heap.size w w' ∧ RepRes w w' vs (.one (.fresh .u64 l)) v) := by
    rintro l n c rfl rfl
    refine (clone_nil w n c).mono fun e w' ⟨he, hw⟩ => ?_
    subst hw
    exact ⟨_, he, Below.refl _ _, .inl ⟨rfl, rfl⟩⟩
  unfold sClone at hs
  split at hs
  · rename_i l
    cases hs
    match vs, hrep with
    | [v], ⟨⟨A, cap, hv, h1, h2, h3⟩, _⟩ =>
    subst hv
    cases A with
    | none =>
      have hl : l = [] := Classical.byContradiction fun hne => by obtain ⟨ad, h4, _⟩ := h3 hne; cases h4
      subst hl
      exact nilCase [] 0 cap rfl rfl
    | some ad =>
      by_cases hl : l = []
      · subst hl
        refine (clone_some w ad 0 cap (run_app_zero _ 42 42 26 Try.t26 Try.underlying42 hi (by kernel_rfl) _ _ 0 0 cap (Nat.le_refl _))).mono fun e w' ⟨he, hw⟩ => ?_
        subst hw
        exact ⟨_, he, (Below.refl _ w).alloc (Nat.le_refl _) _, .inr ⟨w.heap.size, 0, #[], 26, [], rfl, Nat.le_refl _, ⟨Nat.zero_le _, Nat.zero_le _⟩, Nat.le_refl _, heap_alloc_new w _, rfl⟩⟩
      · obtain ⟨ad', h4, h5⟩ := h3 hl
        cases h4
        have hpos : 0 < l.length := List.length_pos_iff.2 hl
        have hb : Try.t26.bytes = 8 := by kernel_rfl
        have hz1 : Try.t26.size = 1 := by kernel_rfl
        have hg : grownCap (w.alloc (Obj.cells #[] 26)) l.length 0 26 ≤ maxLen := grownCap_le_maxLen _ _ _ _ (by simp only [maxLen]; omega)
        have hg2 := grownCap_ge (w.alloc (Obj.cells #[] 26)) l.length 0 26
        have hrun := run_append_grow (P := Try.prog) (w.alloc (Obj.cells #[] 26)) 42 42 26 Try.t26 (.int .u64 0) Try.underlying42 hi (by kernel_rfl) ⟨w.heap.size, 0, none⟩ 0 0 [] (by simp) (by intro j v h; simp at h) ad l.length cap (l.map (.int .u64)) (by simp [hz1]) (by
          intro j u hj
          obtain ⟨hj1, hj2⟩ := List.getElem?_eq_some_iff.1 hj
          simp only [List.length_map] at hj1
          rw [Lib.cell?_alloc_some _ (h5 j hj1)]
          simp at hj2
          rw [← hj2, List.getD, List.getElem?_eq_getElem hj1]
          rfl) (by omega) (by omega) (by rw [hb, show 0 + l.length = l.length by omega, nextslicecap_zero hpos]; omega)
        simp only [Nat.zero_add] at hrun
        refine (clone_some w ad l.length cap hrun).mono fun e w' ⟨he, hw⟩ => ?_
        subst hw
        have hlen : (w.alloc (Obj.cells #[] 26)).drew.heap.size = w.heap.size + 1 := by simp
        refine ⟨_, he, ?_, .inr ⟨w.heap.size + 1, grownCap (w.alloc (Obj.cells #[] 26)) l.length 0 26, _, 26, _, by simp, hg2, ⟨hg, ?_⟩, by omega, by rw [← hlen]; exact heap_alloc_new _ _, by simp; rfl⟩⟩
        · exact (((Below.refl _ w).alloc (Nat.le_refl _) _).drew).alloc (by simp) _
        · have hz : (Value.int IntKind.u64 0).cells.size = 1 := rfl
          simp [size_zc, hz]
          omega
  · cases hs
    match vs, hrep with
    | [v], ⟨hv, _⟩ => exact nilCase [] 0 0 rfl (by rw [show v = .slice none 0 0 from hv])
  · cases hs
theorem clone_soundB : Sound Try.prog 70 .body sCloneB := sound_weaken clone_sound fun ds p r h1 h2 => by
  unfold sCloneB at h1
  split at h1
  · split at h1
    · rename_i h; cases h1; exact ⟨_, rfl, h⟩
    · cases h1
  · cases h1; exact ⟨True, rfl, trivial⟩
  · cases h1
theorem sCloneB_free {ds : List DV} {p : Prop} {r : Res} (h : sCloneB ds = some (p, r)) : p := by
  unfold sCloneB at h
  split at h
  · split at h
    · cases h; trivial
    · cases h
  · cases h; trivial
  · cases h
end Go.Proofs.AMT
