/- Part of the proof: own text. -/
import Derived.Test.YthdbkmpkebdliaaGreatDoorKM0
import Derived.Test.YthdbkmpkebdliaaGreatDoorKM1
set_option linter.all false
set_option maxHeartbeats 20000000
namespace Go.Proofs.YthdbkmpkebdliaaGreatDoor
open Go.ChangeShapes Go.WideShapes Go.ChangeAt Go.RowKit Go.Deep Go.ChangeMaps
theorem T5 {H : Type} {enc : TypeId × Value → H} {P : Program} {w : World} {base : Nat} {spare : Nat → Bool} {held : Bool} {t0 t1 t2 t3 t4 : TypeId} {args : Array Value} {ds : List (DataW H)} {ps : List MemPlace} (h : DataW.TrodAll enc P w base spare held [t0, t1, t2, t3, t4] args.toList ds ps) :
    ∃ v0 v1 v2 v3 v4 d0 d1 d2 d3 d4 p0 p1 p2 p3 p4, args = #[v0, v1, v2, v3, v4] ∧ ds = [d0, d1, d2, d3, d4] ∧ ps = p0 ++ (p1 ++ (p2 ++ (p3 ++ p4))) ∧ DataW.Trod enc P w base spare held t0 v0 d0 p0 ∧ DataW.Trod enc P w base spare held t1 v1 d1 p1 ∧ DataW.Trod enc P w base spare held t2 v2 d2 p2 ∧ DataW.Trod enc P w base spare held t3 v3 d3 p3 ∧ DataW.Trod enc P w base spare held t4 v4 d4 p4 := by
  obtain ⟨v0, vs, d0, ds0, p0, q0, hargs, rfl, rfl, hd0, hr0⟩ := trodAll_cons h
  obtain ⟨v1, vs1, d1, ds1, p1, q1, rfl, rfl, rfl, hd1, hr1⟩ := trodAll_cons hr0
  obtain ⟨v2, vs2, d2, ds2, p2, q2, rfl, rfl, rfl, hd2, hr2⟩ := trodAll_cons hr1
  obtain ⟨v3, vs3, d3, ds3, p3, q3, rfl, rfl, rfl, hd3, hr3⟩ := trodAll_cons hr2
  obtain ⟨v4, vs4, d4, ds4, p4, q4, rfl, rfl, rfl, hd4, hr4⟩ := trodAll_cons hr3
  obtain ⟨rfl, rfl, rfl⟩ := trodAll_nil hr4
  exact ⟨v0, v1, v2, v3, v4, d0, d1, d2, d3, d4, p0, p1, p2, p3, p4, by cases args; simp_all, rfl, by simp, hd0, hd1, hd2, hd3, hd4⟩
theorem walk (n r : Int) (v : Value) (l : List Int) (q s : Bool) (w : World) (hv : Go.AM.RepD w (.sl .u64 l) v) (hl : Go.AM.LN.lim l ∧ l.length < 9223372036854775808) (hT : TT w) :
    Calls Tryz.prog 11 #[.int .i64 n, .int .i64 r, v, .bool q, .bool s] w fun e w' => e = .returned (.bool true) ∧ Below w.heap.size w w' := by
  obtain ⟨fn, h1, h2, h3, h4⟩ := Go.Proofs.AMT.sound_11
  have h := h4 [.v (.int .i64 n), .v (.int .i64 r), .sl .u64 l, .v (.bool q), .v (.bool s)] _ _ rfl hl w [.int .i64 n, .int .i64 r, v, .bool q, .bool s] hT ⟨rfl, rfl, hv, rfl, rfl, trivial⟩
  refine h.mono fun e w' ⟨v, he, hb, hr⟩ => ?_
  have hv : v = .bool true := hr
  subst hv
  exact ⟨he, hb⟩
theorem sl_rep {H : Type} {enc : TypeId × Value → H} {W : World} {fuel : Nat} {v2 : Value} {x : DataW H × List MemPlace} (h : DataW.trod enc Tryz.prog W 0 (fun _ => true) true fuel 50 [v2] = some x) :
    ∃ l, Go.AM.RepD W (.sl .u64 l) v2 ∧ Go.AM.LN.lim l ∧ l.length < 9223372036854775808 := by
  rcases open_ints Tryz.underlying50 Tryz.underlying22 c22 h with ⟨h1, _⟩ | ⟨a, len, cap, zs, h1, _, hl, hm, hz, _, hcell, hwf⟩
  · simp only [List.cons.injEq, and_true] at h1
    subst h1
    exact ⟨[], ⟨none, 0, rfl, Nat.le_refl _, Nat.zero_le _, fun h => absurd rfl h⟩, (fun x hx => nomatch hx), by decide⟩
  · simp only [List.cons.injEq, and_true] at h1
    subst h1
    have hz : zs.length = cap := by simpa using hz
    have hlen : (zs.take len).length = len := by rw [List.length_take]; omega
    have hmax : maxLen < 9223372036854775808 := by decide
    refine ⟨zs.take len, ⟨some a, cap, by rw [hlen], by omega, hm, fun _ => ⟨a, rfl, fun i hi => ?_⟩⟩, fun x hx => ?_, by omega⟩
    · rw [hcell i (by omega)]
      have : (zs.take len).getD i 0 = zs.getD i 0 := by
        rw [List.getD, List.getD, List.getElem?_take, if_pos (by omega)]
      rw [this]
    · have := bounds_u64 (hwf x (List.mem_of_mem_take hx))
      omega
set_option maxRecDepth 100000 in
theorem lifted (os : Os) (started : os.Started) (H : Type) (enc : TypeId × Value → H) :
    ReturnsInHanded {} Tryz.checked os 11 .any (fun w args => (Rows.readbinNaNsSpec.pre enc Tryz.prog Tryz.f11 [] false w args ∧ laidMetH Tryz.prog Rows.readbinNaNsRow.laid w) ∧ sizedMet enc Tryz.prog Tryz.f11 (OpenSpec.ofChange Rows.readbinNaNsSpec) false w args)
      (Rows.readbinNaNsSpec.post enc Tryz.prog Tryz.f11 false true false false) := by
  refine returnsInHanded_of_change_and (C := Tryz.checked) (X := fun w _ => laidMetH Tryz.prog Rows.readbinNaNsRow.laid w) (fun _ _ _ hh h => h.of_heap hh) own started (by kernel_rfl) Tryz.func11
    (ChangeSpec.witness_shaped (enc := enc) (C := Tryz.checked) (os := os) (X := fun w _ => laidMetH Tryz.prog Rows.readbinNaNsRow.laid w) false (door os) #[.int .i64 0, .int .i64 0, .slice none 0 0, .bool false, .bool false] 8 rfl (World.shaped_of_RefB (by kernel_rfl) (by kernel_rfl)) (by kernel_rfl) (by kernel_rfl) (by kernel_rfl) (door_met os _)) ?_
  intro W base args ds gs before hval0 hW _ _ hL _
  have hval : ∀ (j : Nat) t v, Tryz.f11.params[j]? = some t → args[j]? = some v → Value.okWide Tryz.prog W .any base t v := hval0
  have hW' := hW
  obtain ⟨p, q, hA0, hV, rfl, hfz, hnd⟩ := hW
  have hA : DataW.TrodAll enc Tryz.prog W 0 (fun _ => true) true Tryz.f11.params.toList args.toList ds p := hA0
  rw [Tryz.params11] at hA hval
  obtain ⟨v0, v1, v2, v3, v4, d0, d1, d2, d3, d4, p0, p1, p2, p3, p4, rfl, rfl, rfl, h0, h1, h2, h3, h4⟩ := T5 hA
  obtain ⟨rfl, rfl⟩ := trodVars_none hV
  obtain ⟨n, rfl, rfl, rfl, wn⟩ := open_int Tryz.underlying3 (hval 0 3 v0 rfl rfl) h0
  obtain ⟨r, rfl, rfl, rfl, wr⟩ := open_int Tryz.underlying3 (hval 1 3 v1 rfl rfl) h1
  have h2k := h2
  obtain ⟨fuel, hf⟩ := h2
  obtain ⟨q, rfl, rfl, rfl⟩ := open_bool Tryz.underlying4 (hval 3 4 v3 rfl rfl) h3
  obtain ⟨s, rfl, rfl, rfl⟩ := open_bool Tryz.underlying4 (hval 4 4 v4 rfl rfl) h4
  obtain ⟨A, ln, cp, rfl⟩ := okWide_slice Tryz.underlying50 (hval 2 50 v2 rfl rfl)
  obtain ⟨l, hrep, hl⟩ := sl_rep hf
  clear hA0 hval0
  simp only [List.append_nil, List.nil_append] at hW'
  have hlt : ∀ x ∈ p2, x.block < W.heap.size := fun x hx => by simpa using hW'.lt x hx
  refine (walk n r _ l q s W hrep hl (of_laid hL)).mono fun e W' ⟨he, hb⟩ => ?_
  subst he
  exact ⟨_, rfl, _, _, _, [], _, [], hW', trodAll_mk1 (shut_bool Tryz.underlying4 _), trodAll_cons_mk (shut_int Tryz.underlying3 wn) (trodAll_cons_mk (shut_int Tryz.underlying3 wr) (trodAll_cons_mk (Below.trod (by kernel_rfl) (by kernel_rfl) (of_decide_eq_true (by kernel_rfl)) h2k hb hlt) (trodAll_cons_mk (shut_bool Tryz.underlying4 _) (trodAll_mk1 (shut_bool Tryz.underlying4 _))))), rfl, hb.frame _, fun h => by cases h⟩
end Go.Proofs.YthdbkmpkebdliaaGreatDoor
