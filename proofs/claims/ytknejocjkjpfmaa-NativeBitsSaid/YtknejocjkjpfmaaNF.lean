/- NativeBits: for every input the law answers true. Conditions: none beyond the given statement. -/
import Derived.Test.YtknejocjkjpfmaaNS
import Derived.Test.YtknejocjkjpfmaaRows
import Derived.WalkKit
import Derived.ProofKit
import Derived.OpenShut
set_option linter.all false
namespace Go.Proofs.Ytknejocjkjpfmaa
open Go.ChangeShapes Go.WideShapes Go.ChangeAt Go.RowKit
section
variable {H : Type} {enc : TypeId × Value → H} {P : Program} {w : World} {base : Nat} {spare : Nat → Bool} {held : Bool} {t e : TypeId} {k : IntKind}
theorem open_arr4 {r : Reach} {b0 : Nat} {v : Value} {d : DataW H} {ps : List MemPlace} (ht : P.underlying t = some (.array 4 e)) (he : P.underlying e = some (.int k)) (hc : P.cellsOf e = 1) (hc4 : P.cellsOf t = 4) (hval : Value.okWide P w r b0 t v) (hd : DataW.Trod enc P w base spare held t v d ps) :
    ∃ n0 n1 n2 n3, v = .agg #[.int k n0, .int k n1, .int k n2, .int k n3] ∧ d = .agg [.lit (.int k n0), .lit (.int k n1), .lit (.int k n2), .lit (.int k n3)] ∧ ps = [] ∧ (Lit.int k n0).wf = true ∧ (Lit.int k n1).wf = true ∧ (Lit.int k n2).wf = true ∧ (Lit.int k n3).wf = true := by
  unfold Value.okWide at hval
  rw [ht] at hval
  obtain ⟨cs, rfl, hsz, _⟩ := hval
  obtain ⟨fuel, hf⟩ := hd
  obtain ⟨xs, m, rfl, hx, hl, hxl, hxs⟩ := DataW.trod_array ht hf
  rw [hc4] at hsz
  simp only [Value.cells] at hf hl hxs
  match xs, hxl with
  | [x0, x1, x2, x3], _ =>
  have h0 := hxs 0 (by omega)
  have h1 := hxs 1 (by omega)
  have h2 := hxs 2 (by omega)
  have h3 := hxs 3 (by omega)
  obtain ⟨cs⟩ := cs
  match cs, hsz with
  | [c0, c1, c2, c3], _ =>
  simp [hc] at h0 h1 h2 h3
  obtain ⟨n0, e0, f0, g0⟩ := DataW.trod_int he h0
  obtain ⟨n1, e1, f1, g1⟩ := DataW.trod_int he h1
  obtain ⟨n2, e2, f2, g2⟩ := DataW.trod_int he h2
  obtain ⟨n3, e3, f3, g3⟩ := DataW.trod_int he h3
  simp only [List.cons.injEq, and_true] at e0 e1 e2 e3
  subst e0 e1 e2 e3 f0 f1 f2 f3
  simp only [Prod.mk.injEq] at hx
  exact ⟨n0, n1, n2, n3, rfl, by rw [hx.1]; rfl, by rw [hx.2]; rfl, g0, g1, g2, g3⟩
theorem shut_arr4 {n0 n1 n2 n3 : Int} (ht : P.underlying t = some (.array 4 e)) (he : P.underlying e = some (.int k)) (hc : P.cellsOf e = 1) (hc4 : P.cellsOf t = 4) (g0 : (Lit.int k n0).wf = true) (g1 : (Lit.int k n1).wf = true) (g2 : (Lit.int k n2).wf = true) (g3 : (Lit.int k n3).wf = true) :
    DataW.Trod enc P w base spare held t (.agg #[.int k n0, .int k n1, .int k n2, .int k n3]) (.agg [.lit (.int k n0), .lit (.int k n1), .lit (.int k n2), .lit (.int k n3)]) [] := by
  refine ⟨2, ?_⟩
  unfold DataW.trod
  simp [ht, hc4, Value.cells, hc, List.range, List.range.loop, trod_int_mk 0 he, g0, g1, g2, g3]
end

theorem own : ownKnob Try.prog.godebug = none := by kernel_rfl
theorem walk (x y a0 a1 a2 a3 : Int) (wx : (Lit.int .u64 x).wf = true) (wy : (Lit.int .u32 y).wf = true) (g0 : (Lit.int .u64 a0).wf = true) (w : World) :
    Calls Try.prog 6 #[.int .u64 x, .int .u32 y, .agg #[.int .u64 a0, .int .u64 a1, .int .u64 a2, .int .u64 a3]] w fun e w' => e = .returned (.bool true) ∧ Below w.heap.size w w' := by
  obtain ⟨fn, h1, h2, h3, h4⟩ := Go.Proofs.AMT.sound_6
  have b0 := bounds_u64 wx
  have b1 := bounds_u32 wy
  have b2 := bounds_u64 g0
  have h := h4 [.v (.int .u64 x), .v (.int .u32 y), .v (.agg #[.int .u64 a0, .int .u64 a1, .int .u64 a2, .int .u64 a3])] _ _ rfl ⟨⟨by omega, by omega⟩, ⟨by omega, by omega⟩, by omega, by omega⟩ w
    [.int .u64 x, .int .u32 y, .agg #[.int .u64 a0, .int .u64 a1, .int .u64 a2, .int .u64 a3]] ⟨rfl, rfl, rfl, trivial⟩
  refine h.mono fun e w' ⟨v, he, hb, hr⟩ => ?_
  have hv : v = .bool true := hr
  subst hv
  exact ⟨he, hb⟩
set_option maxRecDepth 100000 in
theorem lifted (os : Os) (started : os.Started) (H : Type) (enc : TypeId × Value → H) :
    ReturnsInHanded {} Try.checked os 6 .any (Rows.nativeBitsSpec.pre6 enc Try.prog Try.f6 Rows.nativeBitsRow.domain false) (Rows.nativeBitsSpec.post enc Try.prog Try.f6 false true false false) := by
  refine returnsInHanded_of_change (C := Try.checked) own started (by kernel_rfl) Try.func6
    (ChangeSpec.witness6 (enc := enc) (C := Try.checked) false ⟨#[], #[.int .u64 0, .int .u32 0, .agg #[.int .u64 0, .int .u64 0, .int .u64 0, .int .u64 0]], []⟩ 8 (by kernel_rfl) (by kernel_rfl) (by kernel_rfl) (by kernel_rfl)) ?_
  intro W base args ds gs before hval0 hW hcnd _
  have hval : ∀ (j : Nat) t v, Try.f6.params[j]? = some t → args[j]? = some v → Value.okWide Try.prog W .any base t v := hval0
  have hW' := hW
  obtain ⟨p, q, hA0, hV, rfl, hfz, hnd⟩ := hW
  have hA : DataW.TrodAll enc Try.prog W 0 (fun _ => true) true Try.f6.params.toList args.toList ds p := hA0
  rw [Try.params6] at hA hval
  obtain ⟨v0, vs0, d0, ds0, p0, q0, hargs, rfl, rfl, h0, r0⟩ := trodAll_cons hA
  obtain ⟨v1, vs1, d1, ds1, p1, q1, rfl, rfl, rfl, h1, r1⟩ := trodAll_cons r0
  obtain ⟨v2, vs2, d2, ds2, p2, q2, rfl, rfl, rfl, h2, r2⟩ := trodAll_cons r1
  obtain ⟨rfl, rfl, rfl⟩ := trodAll_nil r2
  obtain rfl : args = #[v0, v1, v2] := by cases args; simp_all
  obtain ⟨rfl, rfl⟩ := trodVars_none hV
  obtain ⟨x, rfl, rfl, rfl, w0⟩ := open_int Try.underlying26 (hval 0 26 v0 rfl rfl) h0
  obtain ⟨y, rfl, rfl, rfl, w1⟩ := open_int Try.underlying22 (hval 1 22 v1 rfl rfl) h1
  obtain ⟨a0, a1, a2, a3, rfl, rfl, rfl, g0, g1, g2, g3⟩ := open_arr4 Try.underlying28 Try.underlying26 (by kernel_rfl) (by kernel_rfl) (hval 2 28 v2 rfl rfl) h2
  clear hA0 hval0
  simp only [List.append_nil] at hW'
  refine (walk x y a0 a1 a2 a3 w0 w1 g0 W).mono fun e W' ⟨he, hb⟩ => ?_
  subst he
  exact ⟨_, rfl, _, _, _, [], _, [], hW', trodAll_mk1 (shut_bool Try.underlying4 _), trodAll_cons_mk (shut_int Try.underlying26 w0) (trodAll_cons_mk (shut_int Try.underlying22 w1) (trodAll_cons_mk (shut_arr4 Try.underlying28 Try.underlying26 (by kernel_rfl) (by kernel_rfl) g0 g1 g2 g3) trodAll_mk0)), rfl, hb.frame _, fun h => by cases h⟩
theorem over : Rows.nativeBitsRow.holds Try.pinned (OpenSpec.ofChange Rows.nativeBitsSpec) :=
  OpenClaim.holds_of_wide 6 Try.f6 rfl rfl rfl rfl rfl rfl rfl ⟨rfl, rfl, rfl, rfl, rfl⟩ rfl rfl rfl rfl rfl (by kernel_rfl) Try.func6 (by kernel_rfl)
    (of_decide_eq_true (by kernel_rfl)) (by unfold Func.isWrapper; first | (rw [if_pos (by decide +kernel)]; kernel_rfl) | (rw [if_neg (by decide +kernel)]; exact ⟨rfl, rfl⟩))
    (fun os started H enc _ => lifted os started H enc)
theorem nativeBits : Rows.NativeBitsSaid := over
end Go.Proofs.Ytknejocjkjpfmaa
