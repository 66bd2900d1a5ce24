/- Part of the proof: own text. -/
import Derived.Test.YthdbkmpkebdliaaGreatDoorKK2
import Derived.Test.YthdbkmpkebdliaaGreatDoorKK3
set_option linter.all false
set_option maxHeartbeats 20000000
namespace Go.Proofs.YthdbkmpkebdliaaGreatDoor
open Go.ChangeShapes Go.WideShapes Go.ChangeAt Go.RowKit Go.Deep Go.ChangeMaps
theorem c42 : Tryz.prog.cellsOf 42 = 5 := by kernel_rfl
theorem c3 : Tryz.prog.cellsOf 3 = 1 := by kernel_rfl
theorem c4 : Tryz.prog.cellsOf 4 = 1 := by kernel_rfl
theorem c9 : Tryz.prog.cellsOf 9 = 1 := by kernel_rfl
theorem list5 {α : Type} (l : List α) (h : l.length = 5) : ∃ a b c d e, l = [a, b, c, d, e] := by
  match l, h with
  | [a, b, c, d, e], _ => exact ⟨a, b, c, d, e, rfl⟩
section
variable {H : Type} {enc : TypeId × Value → H} {W : World} {base : Nat} {sp : Nat → Bool} {held : Bool}
theorem open42 {fuel : Nat} {cs : List Value} {x : DataW H × List MemPlace} (h : DataW.trod enc Tryz.prog W base sp held fuel 42 cs = some x) :
    ∃ (cl : Int) (sg si : Bool) (s : ByteArray) (ex : Int), cs = [.int .i64 cl, .bool sg, .bool si, .string s, .int .i64 ex] ∧
      x = (.agg [.lit (.int .i64 cl), .lit (.bool sg), .lit (.bool si), .lit (.string s.data.toList), .lit (.int .i64 ex)], []) ∧ (Lit.int .i64 cl).wf = true ∧ s.size ≤ maxLen ∧ (Lit.int .i64 ex).wf = true := by
  obtain ⟨xs, m, _, hx, hl, hlen, hf⟩ := DataW.trod_struct Tryz.underlying42 h
  rw [c42] at hl
  obtain ⟨e0, e1, e2, e3, e4, rfl⟩ := list5 cs hl
  match xs, hlen with
  | [y0, y1, y2, y3, y4], _ =>
    have hy0 : DataW.trod enc Tryz.prog W base sp held m 3 (List.take (Tryz.prog.cellsOf 3) [e0, e1, e2, e3, e4]) = some y0 := hf 0 _ rfl
    have hy1 : DataW.trod enc Tryz.prog W base sp held m 4 (List.take (Tryz.prog.cellsOf 4) [e1, e2, e3, e4]) = some y1 := hf 1 _ rfl
    have hy2 : DataW.trod enc Tryz.prog W base sp held m 4 (List.take (Tryz.prog.cellsOf 4) [e2, e3, e4]) = some y2 := hf 2 _ rfl
    have hy3 : DataW.trod enc Tryz.prog W base sp held m 9 (List.take (Tryz.prog.cellsOf 9) [e3, e4]) = some y3 := hf 3 _ rfl
    have hy4 : DataW.trod enc Tryz.prog W base sp held m 3 (List.take (Tryz.prog.cellsOf 3) [e4]) = some y4 := hf 4 _ rfl
    rw [c3] at hy0 hy4
    rw [c4] at hy1 hy2
    rw [c9] at hy3
    simp only [List.take_succ_cons, List.take_zero] at hy0 hy1 hy2 hy3 hy4
    obtain ⟨cl, q0, g0, w0⟩ := DataW.trod_int Tryz.underlying3 hy0
    obtain ⟨sg, q1, g1⟩ := DataW.trod_bool Tryz.underlying4 hy1
    obtain ⟨si, q2, g2⟩ := DataW.trod_bool Tryz.underlying4 hy2
    obtain ⟨s, q3, g3, ws⟩ := DataW.trod_string Tryz.underlying9 hy3
    obtain ⟨ex, q4, g4, wx⟩ := DataW.trod_int Tryz.underlying3 hy4
    simp only [List.cons.injEq, and_true] at q0 q1 q2 q3 q4
    subst q0 q1 q2 q3 q4 g0 g1 g2 g3 g4
    exact ⟨cl, sg, si, s, ex, rfl, by rw [hx]; rfl, w0, ws, wx⟩
theorem shut42 {cl ex : Int} {sg si : Bool} {s : ByteArray} (w0 : (Lit.int .i64 cl).wf = true) (ws : s.size ≤ maxLen) (wx : (Lit.int .i64 ex).wf = true) :
    DataW.Trod enc Tryz.prog W base sp held 42 (.agg #[.int .i64 cl, .bool sg, .bool si, .string s, .int .i64 ex]) (.agg [.lit (.int .i64 cl), .lit (.bool sg), .lit (.bool si), .lit (.string s.data.toList), .lit (.int .i64 ex)]) [] := by
  obtain ⟨k, hk⟩ := shut_string_cell (enc := enc) (w := W) (base := base) (spare := sp) (held := held) Tryz.underlying9 ws
  have hk1 : ∃ j, k = j + 1 := by cases k with
    | zero => simp [DataW.trod] at hk
    | succ j => exact ⟨j, rfl⟩
  obtain ⟨j, rfl⟩ := hk1
  refine ⟨j + 2, ?_⟩
  have := trod_struct_mk (enc := enc) (w := W) (base := base) (spare := sp) (held := held) (n := j + 1) (cs := [.int .i64 cl, .bool sg, .bool si, .string s, .int .i64 ex])
    (xs := [(.lit (.int .i64 cl), []), (.lit (.bool sg), []), (.lit (.bool si), []), (.lit (.string s.data.toList), []), (.lit (.int .i64 ex), [])]) Tryz.underlying42 c42.symm
    (by simp [c3, c4, c9, hk, trod_int_mk j Tryz.underlying3 w0, trod_int_mk j Tryz.underlying3 wx, DataW.trod, Tryz.underlying4, w0, ws, wx])
  exact this
end
theorem walk (n r cl : Int) (sg si : Bool) (s : ByteArray) (ex : Int) (w : World) (hs : s.size ≤ maxLen) (wx : (Lit.int .i64 ex).wf = true) (hT : TT w) :
    Calls Tryz.prog 8 #[.int .i64 n, .int .i64 r, .agg #[.int .i64 cl, .bool sg, .bool si, .string s, .int .i64 ex]] w fun e w' => e = .returned (.bool true) ∧ Below w.heap.size w w' := by
  obtain ⟨fn, h1, h2, h3, h4⟩ := Go.Proofs.AMT.sound_8
  have bx := bounds_i64 wx
  have h := h4 [.v (.int .i64 n), .v (.int .i64 r), .v (.agg #[.int .i64 cl, .bool sg, .bool si, .string s, .int .i64 ex])] _ _ rfl (by omega) w
    [.int .i64 n, .int .i64 r, .agg #[.int .i64 cl, .bool sg, .bool si, .string s, .int .i64 ex]] hT ⟨rfl, rfl, rfl, trivial⟩
  refine h.mono fun e w' ⟨v, he, hb, hr⟩ => ?_
  have hv : v = .bool true := hr
  subst hv
  exact ⟨he, hb⟩
set_option maxRecDepth 100000 in
theorem lifted (os : Os) (started : os.Started) (H : Type) (enc : TypeId × Value → H) :
    ReturnsInHanded {} Tryz.checked os 8 .any (fun w args => (Rows.readbinMakesSpec.pre enc Tryz.prog Tryz.f8 [] false w args ∧ laidMetH Tryz.prog Rows.readbinMakesRow.laid w) ∧ sizedMet enc Tryz.prog Tryz.f8 (OpenSpec.ofChange Rows.readbinMakesSpec) false w args)
      (Rows.readbinMakesSpec.post enc Tryz.prog Tryz.f8 false true false false) := by
  refine returnsInHanded_of_change_and (C := Tryz.checked) (X := fun w _ => laidMetH Tryz.prog Rows.readbinMakesRow.laid w) (fun _ _ _ hh h => h.of_heap hh) own started (by kernel_rfl) Tryz.func8
    (ChangeSpec.witness_shaped (enc := enc) (C := Tryz.checked) (os := os) (X := fun w _ => laidMetH Tryz.prog Rows.readbinMakesRow.laid w) false (door os) #[.int .i64 0, .int .i64 0, .agg #[.int .i64 0, .bool false, .bool false, .string ⟨#[]⟩, .int .i64 0]] 8 rfl (World.shaped_of_RefB (by kernel_rfl) (by kernel_rfl)) (by kernel_rfl) (by kernel_rfl) (by kernel_rfl) (door_met os _)) ?_
  intro W base args ds gs before hval0 hW _ _ hL _
  have hval : ∀ (j : Nat) t v, Tryz.f8.params[j]? = some t → args[j]? = some v → Value.okWide Tryz.prog W .any base t v := hval0
  have hW' := hW
  obtain ⟨p, q, hA0, hV, rfl, hfz, hnd⟩ := hW
  have hA : DataW.TrodAll enc Tryz.prog W 0 (fun _ => true) true Tryz.f8.params.toList args.toList ds p := hA0
  rw [Tryz.params8] at hA hval
  obtain ⟨v0, v1, v2, d0, d1, d2, p0, p1, p2, rfl, rfl, rfl, h0, h1, h2⟩ := trodAll_three hA
  obtain ⟨rfl, rfl⟩ := trodVars_none hV
  obtain ⟨n, rfl, rfl, rfl, wn⟩ := open_int Tryz.underlying3 (hval 0 3 v0 rfl rfl) h0
  obtain ⟨r, rfl, rfl, rfl, wr⟩ := open_int Tryz.underlying3 (hval 1 3 v1 rfl rfl) h1
  obtain ⟨cs, rfl, hsz⟩ := okWide_struct Tryz.underlying42 (hval 2 42 v2 rfl rfl)
  obtain ⟨l⟩ := cs
  obtain ⟨fuel, hf⟩ := h2
  obtain ⟨cl, sg, si, s, ex, hl, hx, wc, ws, wx⟩ := open42 hf
  have hl' : l = [.int .i64 cl, .bool sg, .bool si, .string s, .int .i64 ex] := hl
  subst hl'
  simp only [Prod.mk.injEq] at hx
  obtain ⟨rfl, rfl⟩ := hx
  clear hA0 hval0
  simp only [List.append_nil] at hW'
  refine (walk n r cl sg si s ex W ws wx (of_laid hL)).mono fun e W' ⟨he, hb⟩ => ?_
  subst he
  exact ⟨_, rfl, _, _, _, [], _, [], hW', trodAll_mk1 (shut_bool Tryz.underlying4 _), trodAll_cons_mk (shut_int Tryz.underlying3 wn) (trodAll_cons_mk (shut_int Tryz.underlying3 wr) (trodAll_mk1 (shut42 wc ws wx))), rfl, hb.frame _, fun h => by cases h⟩
end Go.Proofs.YthdbkmpkebdliaaGreatDoor
