/- Part AmSp4 of the proof: own text. -/
import Derived.Test.YtknejocjkjpfmaaAmSp3
set_option linter.all false
namespace Go.AM
open Go.RowKit (Below)
variable {P : Program} {V : Nat → Prop} {β : Nat → Option Nat} {w0 w w' : World} {N : Nat} {e : Env} {m : Mem} {a : Act}
variable {ty : Ty} {Γ : Gam} {d : Option Tmp} {tt : TypeId} {pos : String} {after : Array Edge} {g : Option (Nat × Bool)}
theorem layAt_ok {k : IntKind} {c c' : Ct} {lo : Nat} {l : List Int} (h : layAt k c lo l = some c') (hok : okCells c.cells = true) (hfit : lo + l.length ≤ c.len) :
    c'.cells = c.cells.take lo ++ l.map (Value.int k) ++ c.cells.drop (lo + l.length) ∧ c'.len = c.len ∧ okCells c'.cells = true := by
  have hcells : c'.cells = c.cells.take lo ++ l.map (Value.int k) ++ c.cells.drop (lo + l.length) := by
    cases c with
    | ints k' l0 =>
      simp only [layAt] at h
      split at h
      · rename_i hk; subst hk; cases h; simp [Ct.cells, List.map_take, List.map_drop]
      · cases h
    | vals l0 => simp only [layAt] at h; cases h; simp [Ct.cells]
  refine ⟨hcells, ?_, ?_⟩
  · rw [← Ct.length_cells, ← Ct.length_cells, hcells]
    have := Ct.length_cells c
    simp
    omega
  · rw [hcells]
    refine okCells_of fun v hv => ?_
    simp only [List.mem_append] at hv
    rcases hv with (hv | hv) | hv
    · exact okCells_mem hok v (List.mem_of_mem_take hv)
    · exact okCells_one v hv
    · exact okCells_mem hok v (List.mem_of_mem_drop hv)
theorem goInt_eq (n : Nat) : goInt n = .int .i64 (n : Int) := rfl
/-- The cells of one slice laid over another's. -/
theorem copy_core (hty : TysOk P ty) (h : RepB V β w0 N e m a w) {t t' : TypeId} {k : IntKind} {bytes : Nat} (hkb : intSl ty t = some (k, bytes)) {x y : Operand} {l' : List Int} (hl' : yInts ⟨e, m⟩ k (opd ⟨e, m⟩ y) = some l')
    {key lo n cap : Nat} {A : Option Addr} {c c' : Ct} (hmk : m key = some (c, false)) (hxv : a.eval x = .slice A n cap) (hfit : lo + n ≤ c.len) (hA : 0 < n → ∃ b, β key = some b ∧ A = some ⟨b, lo, none⟩) (hlay : layAt k c lo (l'.take n) = some c') :
    ∃ v w', (execOp a.eval ⟨d, .call ⟨.builtin .copy, #[x, y], #[t, t']⟩, tt, pos, after, g⟩).run P w = .ok (.value v) w' ∧ RepB V β w0 N e (fun j => if j = key then some (c', false) else m j) a w' ∧ v = .int .i64 (min l'.length n : Nat) := by
  obtain ⟨el, ei, q, z, hu, hel, hki, hq, hq1, hqb, hz, hzc, hb1⟩ := intSl_ok hty hkb
  obtain ⟨B, cap', hyv, hcap', hcell⟩ := yInts_ok h hl'
  have hok := (h.mem key c false hmk).1
  have htl : (l'.take n).length = min n l'.length := by simp
  obtain ⟨hcs, hlen, hok'⟩ := layAt_ok hlay hok (by rw [htl]; omega)
  by_cases h0 : min l'.length n = 0
  · have hnil : l'.take n = [] := List.length_eq_zero_iff.1 (by rw [htl]; omega)
    have hrun := run_copy_none (P := P) w t t' tt el A B n cap l'.length cap' hu (by rw [hq]; simp [hq1]) h0
    refine ⟨_, w, run_copy_op w (by rw [hxv, hyv]; exact hrun), ?_, by rw [h0]; rfl⟩
    have hcc : c' = c := by
      rw [hnil] at hlay
      cases c with
      | ints k' l0 =>
        simp only [layAt] at hlay
        split at hlay
        · rename_i hk; subst hk; cases hlay; simp
        · cases hlay
      | vals l0 => simp only [layAt] at hlay; cases hlay; simp
    have : (fun j => if j = key then some (c', false) else m j) = m := by
      funext j; split
      · rename_i hj; rw [hj, hmk, hcc]
      · rfl
    rw [this]; exact h
  · obtain ⟨b, hb, rfl⟩ := hA (by omega)
    have hl0 : l' ≠ [] := fun h => by subst h; simp at h0
    obtain ⟨ad, rfl, hcells⟩ := hcell hl0
    rcases (h.mem key c false hmk).2 with ⟨hbad, _⟩ | ⟨b', arr, T, rest, hb', hB, hh, harr⟩
    · rw [hb] at hbad; cases hbad
    · rw [hb] at hb'; cases hb'
      have hasz : arr.size = c.len + rest.length := by rw [← Array.length_toList, harr, List.length_append, Ct.length_cells]
      have hnl : ((l'.take n).map (Value.int k)).length = Nat.min l'.length n := by simp [Nat.min_comm]
      have hrun := run_copy_row (P := P) w t t' tt el b lo n cap ad l'.length cap' arr T ((l'.take n).map (.int k)) hu (by rw [hq]; simp [hq1]) hh hnl (fun j v hv => hcells j v (by
        rw [List.getElem?_map, List.getElem?_take] at hv
        rw [List.getElem?_map]
        split at hv
        · exact hv
        · cases hv)) (by rw [List.length_map, htl]; omega) okCells_one
      refine ⟨_, _, run_copy_op w (by rw [hxv, hyv]; exact hrun), h.store hmk hb hB hh hlen hok' (rest := rest) ?_ ?_, ?_⟩
      · have hcl := Ct.length_cells c
        simp only [harr, hcs, List.length_map, htl]
        rw [List.take_append_of_le_length (by omega), List.drop_append_of_le_length (by omega)]
        simp
      · simp only [List.size_toArray, List.length_append, List.length_take, List.length_map, List.length_drop, Array.length_toList, htl]
        omega
      · rw [goInt_eq, List.length_map, htl, Nat.min_comm]
theorem spCopy_ok (hty : TysOk P ty) {env : List (Nat × AV)} {mem : List (Nat × Ct × Bool)} (h : RepB V β w0 N (lk env) (lk mem) a w) {dd : Nat} {x y : Operand} {t t' : TypeId} {o : Sp} (hs : spCopy ty env mem dd x y t = some o) :
    ∃ v w' β', (execOp a.eval ⟨d, .call ⟨.builtin .copy, #[x, y], #[t, t']⟩, tt, pos, after, g⟩).run P w = .ok (.value v) w' ∧ RepB V β' w0 N (lk o.env) (lk ((o.key, o.ct, false) :: mem)) a w' ∧ RepA V β' (lk ((o.key, o.ct, false) :: mem)) w' o.av v := by
  unfold spCopy at hs
  obtain ⟨⟨k, bytes⟩, hkb, hs⟩ := Option.bind_eq_some_iff.1 hs
  obtain ⟨l', hl', hs⟩ := Option.bind_eq_some_iff.1 hs
  split at hs
  · rename_i key hx
    split at hs
    · rename_i c hmk
      obtain ⟨c', hlay, rfl⟩ := Option.map_eq_some_iff.1 hs
      obtain ⟨c2, fr, cap, hk, hc2, hc1, h4⟩ := opd_ow h hx
      rw [hmk] at hk; cases hk
      have hxv : ∃ A cap3, a.eval x = .slice A c.len cap3 ∧ (0 < c.len → ∃ b, β key = some b ∧ A = some ⟨b, 0, none⟩) := by
        rcases h4 with ⟨_, h0, hv⟩ | ⟨b, hb, hv⟩
        · exact ⟨none, 0, by rw [hv, h0], fun hp => by omega⟩
        · exact ⟨_, cap, hv, fun _ => ⟨b, hb, rfl⟩⟩
      obtain ⟨A, cap3, hxv, hA⟩ := hxv
      obtain ⟨v, w', h5, h6, h7⟩ := copy_core (d := d) (tt := tt) (pos := pos) (after := after) (g := g) (t' := t') hty h hkb hl' hmk hxv (by omega) hA hlay
      exact ⟨v, w', β, h5, by rw [lk_cons_fun]; exact h6, h7⟩
    · cases hs
  · rename_i key lo n hx
    split at hs
    · rename_i c hmk
      obtain ⟨c', hlay, rfl⟩ := Option.map_eq_some_iff.1 hs
      obtain ⟨⟨c2, fr, hk, hle⟩, A, cap, hxv, hc1, hc2, h4⟩ := opd_al h hx
      rw [hmk] at hk; cases hk
      have hA : 0 < n → ∃ b, β key = some b ∧ A = some ⟨b, lo, none⟩ := fun hp => by
        rcases h4 (.inl hp) with ⟨_, _, h0, _⟩ | h5
        · omega
        · exact h5
      obtain ⟨v, w', h5, h6, h7⟩ := copy_core (d := d) (tt := tt) (pos := pos) (after := after) (g := g) (t' := t') hty h hkb hl' hmk hxv hle hA hlay
      exact ⟨v, w', β, h5, by rw [lk_cons_fun]; exact h6, h7⟩
    · cases hs
  · cases hs
theorem sp_ok (hty : TysOk P ty) {env : List (Nat × AV)} {mem : List (Nat × Ct × Bool)} {op : Op} (h : RepB V β w0 N (lk env) (lk mem) a w) {dd : Nat} {o : Sp} (hs : aSp ty env mem dd op = some o) (hp : o.pre) :
    ∃ v w' β', (execOp a.eval ⟨d, op, tt, pos, after, g⟩).run P w = .ok (.value v) w' ∧ RepB V β' w0 N (lk o.env) (lk ((o.key, o.ct, false) :: mem)) a w' ∧ RepA V β' (lk ((o.key, o.ct, false) :: mem)) w' o.av v := by
  unfold aSp at hs
  split at hs
  · split at hs
    · rename_i he
      subst he
      exact spAppend_ok hty h hs hp
    · cases hs
  · exact spCopy_ok hty h hs
  · cases hs
end Go.AM
