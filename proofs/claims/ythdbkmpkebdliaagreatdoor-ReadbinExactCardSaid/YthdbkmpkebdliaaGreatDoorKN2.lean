/- Part of the proof: own text. -/
import Derived.Test.YthdbkmpkebdliaaGreatDoorKN0
import Derived.Test.YthdbkmpkebdliaaGreatDoorKN1
set_option linter.all false
set_option maxHeartbeats 20000000
namespace Go.Proofs.YthdbkmpkebdliaaGreatDoor
open Go.ChangeShapes Go.WideShapes Go.ChangeAt Go.RowKit Go.Deep Go.ChangeMaps
theorem u24 : Tryz.prog.underlying 24 = some (.array 4 22) := by kernel_rfl
theorem c24 : Tryz.prog.cellsOf 24 = 4 := by kernel_rfl
theorem list4 {α : Type} (l : List α) (h : l.length = 4) : ∃ a b c d, l = [a, b, c, d] := by
  match l, h with
  | [a, b, c, d], _ => exact ⟨a, b, c, d, rfl⟩
theorem walk (n b0 b1 b2 b3 r : Int) (w0 : (Lit.int .u64 b0).wf = true) (w1 : (Lit.int .u64 b1).wf = true) (w2 : (Lit.int .u64 b2).wf = true) (w3 : (Lit.int .u64 b3).wf = true) (w : World) (hT : TT w) :
    Calls Tryz.prog 9 #[.int .i64 n, .agg #[.int .u64 b0, .int .u64 b1, .int .u64 b2, .int .u64 b3], .int .i64 r] w fun e w' => e = .returned (.bool true) ∧ Below w.heap.size w w' := by
  obtain ⟨fn, h1, h2, h3, h4⟩ := Go.Proofs.AMT.sound_9
  have a0 := bounds_u64 w0
  have a1 := bounds_u64 w1
  have a2 := bounds_u64 w2
  have a3 := bounds_u64 w3
  have h := h4 [.v (.int .i64 n), .v (.agg #[.int .u64 b0, .int .u64 b1, .int .u64 b2, .int .u64 b3]), .v (.int .i64 r)] _ _ rfl ⟨⟨by omega, by omega⟩, ⟨by omega, by omega⟩, ⟨by omega, by omega⟩, by omega, by omega⟩ w
    [.int .i64 n, .agg #[.int .u64 b0, .int .u64 b1, .int .u64 b2, .int .u64 b3], .int .i64 r] hT ⟨rfl, rfl, rfl, trivial⟩
  refine h.mono fun e w' ⟨v, he, hb, hr⟩ => ?_
  have hv : v = .bool true := hr
  subst hv
  exact ⟨he, hb⟩
set_option maxRecDepth 100000 in
theorem lifted (os : Os) (started : os.Started) (H : Type) (enc : TypeId × Value → H) :
    ReturnsInHanded {} Tryz.checked os 9 .any (fun w args => (Rows.readbinExactSpec.pre enc Tryz.prog Tryz.f9 [] false w args ∧ laidMetH Tryz.prog Rows.readbinExactRow.laid w) ∧ sizedMet enc Tryz.prog Tryz.f9 (OpenSpec.ofChange Rows.readbinExactSpec) false w args)
      (Rows.readbinExactSpec.post enc Tryz.prog Tryz.f9 false true false false) := by
  refine returnsInHanded_of_change_and (C := Tryz.checked) (X := fun w _ => laidMetH Tryz.prog Rows.readbinExactRow.laid w) (fun _ _ _ hh h => h.of_heap hh) own started (by kernel_rfl) Tryz.func9
    (ChangeSpec.witness_shaped (enc := enc) (C := Tryz.checked) (os := os) (X := fun w _ => laidMetH Tryz.prog Rows.readbinExactRow.laid w) false (door os) #[.int .i64 0, .agg #[.int .u64 0, .int .u64 0, .int .u64 0, .int .u64 0], .int .i64 0] 8 rfl (World.shaped_of_RefB (by kernel_rfl) (by kernel_rfl)) (by kernel_rfl) (by kernel_rfl) (by kernel_rfl) (door_met os _)) ?_
  intro W base args ds gs before hval0 hW _ _ hL _
  have hval : ∀ (j : Nat) t v, Tryz.f9.params[j]? = some t → args[j]? = some v → Value.okWide Tryz.prog W .any base t v := hval0
  have hW' := hW
  obtain ⟨p, q, hA0, hV, rfl, hfz, hnd⟩ := hW
  have hA : DataW.TrodAll enc Tryz.prog W 0 (fun _ => true) true Tryz.f9.params.toList args.toList ds p := hA0
  rw [Tryz.params9] at hA hval
  obtain ⟨v0, v1, v2, d0, d1, d2, p0, p1, p2, rfl, rfl, rfl, h0, h1, h2⟩ := trodAll_three hA
  obtain ⟨rfl, rfl⟩ := trodVars_none hV
  obtain ⟨n, rfl, rfl, rfl, wn⟩ := open_int Tryz.underlying3 (hval 0 3 v0 rfl rfl) h0
  obtain ⟨r, rfl, rfl, rfl, wr⟩ := open_int Tryz.underlying3 (hval 2 3 v2 rfl rfl) h2
  obtain ⟨cs, rfl, hsz, _⟩ : ∃ cs, v1 = .agg cs ∧ cs.size = Tryz.prog.cellsOf 24 ∧ Row.okWide Tryz.prog W .any base 24 cs := by
    have := hval 1 24 v1 rfl rfl
    simpa [Value.okWide, u24] using this
  rw [c24] at hsz
  obtain ⟨l⟩ := cs
  obtain ⟨e0, e1, e2, e3, rfl⟩ := list4 l hsz
  obtain ⟨fuel, hf⟩ := h1
  obtain ⟨y0, y1, y2, y3, m, hx, hy0, hy1, hy2, hy3⟩ := trod_array4 u24 c22 hf
  obtain ⟨x0, q0, rfl, w0⟩ := DataW.trod_int Tryz.underlying22 hy0
  obtain ⟨x1, q1, rfl, w1⟩ := DataW.trod_int Tryz.underlying22 hy1
  obtain ⟨x2, q2, rfl, w2⟩ := DataW.trod_int Tryz.underlying22 hy2
  obtain ⟨x3, q3, rfl, w3⟩ := DataW.trod_int Tryz.underlying22 hy3
  simp at q0 q1 q2 q3
  subst q0 q1 q2 q3
  simp only [Prod.mk.injEq] at hx
  obtain ⟨rfl, rfl⟩ := hx
  clear hA0 hval0
  simp only [List.append_nil] at hW'
  have rdA : ∀ (W' : World) (sp : Nat → Bool), DataW.Trod enc Tryz.prog W' 0 sp true 24 (.agg #[.int .u64 x0, .int .u64 x1, .int .u64 x2, .int .u64 x3]) (DataW.agg [.lit (.int .u64 x0), .lit (.int .u64 x1), .lit (.int .u64 x2), .lit (.int .u64 x3)]) [] := fun W' sp => ⟨2, by simp [DataW.trod, Value.cells, u24, Tryz.underlying22, c24, c22, w0, w1, w2, w3, show List.range 4 = [0, 1, 2, 3] from rfl]⟩
  refine (walk n x0 x1 x2 x3 r w0 w1 w2 w3 W (of_laid hL)).mono fun e W' ⟨he, hb⟩ => ?_
  subst he
  exact ⟨_, rfl, _, _, _, [], _, [], hW', trodAll_mk1 (shut_bool Tryz.underlying4 _), trodAll_cons_mk (shut_int Tryz.underlying3 wn) (trodAll_cons_mk (rdA _ _) (trodAll_mk1 (shut_int Tryz.underlying3 wr))), rfl, hb.frame _, fun h => by cases h⟩
end Go.Proofs.YthdbkmpkebdliaaGreatDoor
