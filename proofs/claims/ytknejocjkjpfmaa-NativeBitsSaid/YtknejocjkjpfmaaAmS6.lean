/- Part AmS6 of the proof: own text. -/
import Derived.Test.YtknejocjkjpfmaaAmS5
set_option linter.all false
namespace Go.AM
open Go.RowKit (Below)
variable {P : Program} {V : Nat → Prop} {β : Nat → Option Nat} {w0 w w' : World} {N : Nat} {e : Env} {m : Mem} {a : Act}
variable {ty : Ty} {Γ : Gam} {d : Option Tmp} {tt : TypeId} {pos : String} {after : Array Edge} {g : Option (Nat × Bool)}

theorem foldl_setL : ∀ (xs : List Value) (off k : Nat) (cs : Array Value), ((xs.zipIdx k).foldl (fun cs (p : Value × Nat) => cs.setIfInBounds (off + p.2) p.1) cs).toList = setL cs.toList (off + k) xs
  | [], _, _, _ => by simp [setL]
  | x :: xs, off, k, cs => by
    rw [List.zipIdx_cons, List.foldl_cons, foldl_setL xs off (k + 1)]
    simp [setL, Nat.add_assoc]
theorem length_setL : ∀ (xs : List Value) (off : Nat) (l : List Value), (setL l off xs).length = l.length
  | [], _, _ => rfl
  | x :: xs, off, l => by simp [setL, length_setL xs]
theorem setL_eq : ∀ (xs : List Value) (off : Nat) (l : List Value), off + xs.length ≤ l.length → setL l off xs = l.take off ++ xs ++ l.drop (off + xs.length)
  | [], off, l, _ => by simp [setL]
  | x :: xs, off, l, h => by
    simp only [List.length_cons] at h
    rw [setL, setL_eq xs (off + 1) (l.set off x) (by simp; omega), list_seg_step l off x xs (by omega)]
    simp
theorem fill_of (h : RepB V β w0 N e m a w) {place place' : Nat → Option (Nat × Nat)} (hpl : ∀ j r, place' j = some r → place j = some r) :
    ∀ (parts : List (Nat × Operand)) (cs cs' : List Value), fillParts place' ⟨e, m⟩ parts cs = some cs' → Instr.fill place cs.toArray (parts.map fun p => (p.1, a.eval p.2)) = some cs'.toArray
  | [], cs, cs', hf => by simp [fillParts] at hf; subst hf; rfl
  | (i, x) :: r, cs, cs', hf => by
    simp only [fillParts] at hf
    split at hf
    · rename_i off size v hp hv
      split at hf
      · rename_i hc
        have hv' : opd ⟨e, m⟩ x = .v v := by unfold valOf at hv; split at hv <;> simp_all
        have hx := opd_v h hv'
        have ih := fill_of h hpl r _ cs' hf
        have hsz : v.cells.size = size := by rw [← hc.1, ← vcells_cells, Array.length_toList]
        have hset : (v.cells.zipIdx.foldl (fun cs (p : Value × Nat) => cs.setIfInBounds (off + p.2) p.1) cs.toArray) = (setL cs off (vcells v)).toArray := by
          apply Array.ext'
          have := foldl_setL v.cells.toList off 0 cs.toArray
          rw [← vcells_cells, ← Array.foldl_toList, Array.toList_zipIdx]
          simpa using this
        simp only [List.map_cons, Instr.fill, hpl i _ hp, hx]
        rw [if_neg (by simp [hsz]; omega)]
        rw [← ih, ← hset]
      · cases hf
    · cases hf
theorem yes_build_struct (h : RepB V β w0 N e m a w) (hty : TysOk P ty) {t : TypeId} {i : TI} (ht : TyOk P t i) {fs : List (Nat × TypeId)} (hi : i.kind = .struct fs) {parts : Array (Nat × Operand)} {cs : List Value}
    (hf : fillParts (fun j => (fs[j]?).bind fun p => (ty p.2).map fun fi => (p.1, fi.size)) ⟨e, m⟩ parts.toList i.zero = some cs) :
    Yes P V ⟨d, .build t parts, tt, pos, after, g⟩ w0 N e m a w (.v (.agg cs.toArray)) := by
  have hkd := ht.kind
  rw [hi] at hkd
  obtain ⟨_, fields, hu, hmap, hsz⟩ := hkd
  obtain ⟨q, hq, hq1, hq2, z, hz, hzc⟩ := ht.info
  have hplaces : ∀ (l : List Field), (∀ f ∈ l, ∃ q, P.info? f.type = some q ∧ q.size ≠ 0) → ∃ pl, l.mapM (fun f => (P.info? f.type).map fun i => (f.offset, i.size)) = some pl ∧ pl = l.map (fun f => (f.offset, P.cellsOf f.type)) := by
    intro l
    induction l with
    | nil => intro _; exact ⟨[], by simp, rfl⟩
    | cons f r ih =>
      intro hh
      obtain ⟨pl, h1, h2⟩ := ih fun x hx => hh x (by simp [hx])
      obtain ⟨q, h3, _⟩ := hh f (by simp)
      exact ⟨(f.offset, q.size) :: pl, by simp [List.mapM_cons, h3, h1], by simp [h2, Program.cellsOf, h3]⟩
  obtain ⟨pl, hpl1, hpl2⟩ := hplaces fields.toList (fun f hf => hsz f (by simpa using hf))
  have hfill := fill_of h (place := fun x => pl.toArray[x]?) (fun j r hj => by
    cases hfj : fs[j]? with
    | none => simp [hfj] at hj
    | some p =>
      obtain ⟨o, ft⟩ := p
      simp only [hfj, Option.bind_some] at hj
      obtain ⟨fi, hfi, rfl⟩ := Option.map_eq_some_iff.1 hj
      rw [← hmap, List.getElem?_map] at hfj
      obtain ⟨f, hf1, hf2⟩ := Option.map_eq_some_iff.1 hfj
      simp only [Prod.mk.injEq] at hf2
      obtain ⟨rfl, rfl⟩ := hf2
      obtain ⟨q', h1, h2, _⟩ := (hty _ _ hfi).info
      have h3 : P.cellsOf f.type = fi.size := by rw [← h2]; simp [Program.cellsOf, h1]
      simp [hpl2, hf1, h3]) _ _ _ hf
  have hb : P.built t (parts.map fun (i, x) => (i, a.eval x)).toList = some cs.toArray := by
    have e1 : z.cells = i.zero.toArray := by rw [← hzc]
    simp only [Program.built, hq, hu, hz, hpl1, e1, Array.toList_map]
    exact hfill
  refine .same h (v := .agg cs.toArray) ?_ rfl
  simp only [execOp, Sem.run_bind, run_build w t _ _ hb, Result.andThen_ok, Sem.run_pure]
theorem yes_build_arr (h : RepB V β w0 N e m a w) {t : TypeId} {i : TI} (ht : TyOk P t i) {n : Nat} {el : TypeId} (hi : i.kind = .arr n el) {ei : TI} (hel : TyOk P el ei) {parts : Array (Nat × Operand)} {cs : List Value}
    (hf : fillParts (fun j => some (j * ei.size, ei.size)) ⟨e, m⟩ parts.toList i.zero = some cs) :
    Yes P V ⟨d, .build t parts, tt, pos, after, g⟩ w0 N e m a w (.v (.agg cs.toArray)) := by
  have hkd := ht.kind
  rw [hi] at hkd
  obtain ⟨q, hq, hq1, hq2, z, hz, hzc⟩ := ht.info
  obtain ⟨q', hq', hq1', _⟩ := hel.info
  have hfill := fill_of h (place := fun j => some (j * q'.size, q'.size)) (fun j r hj => by rw [hq1']; exact hj) _ _ _ hf
  have hb : P.built t (parts.map fun (i, x) => (i, a.eval x)).toList = some cs.toArray := by
    have e1 : z.cells = i.zero.toArray := by rw [← hzc]
    simp only [Program.built, hq, hkd.1, hz, hq', e1, Array.toList_map]
    exact hfill
  refine .same h (v := .agg cs.toArray) ?_ rfl
  simp only [execOp, Sem.run_bind, run_build w t _ _ hb, Result.andThen_ok, Sem.run_pure]
theorem toInts_map : ∀ {l : List Value} {k : IntKind} {ns : List Int}, toInts k l = some ns → l = ns.map (.int k)
  | [], k, ns, h => by simp [toInts] at h; subst h; rfl
  | x :: r, k, ns, h => by
    cases x <;> simp only [toInts] at h <;> try (cases h; done)
    rename_i k' n
    split at h
    · rename_i hk
      obtain ⟨ms, h1, rfl⟩ := Option.map_eq_some_iff.1 h
      rw [toInts_map h1, hk]
      rfl
    · cases h
theorem okCells_ints (k : IntKind) (l : List Int) : okCells (l.map (Value.int k)) = true := by
  induction l with
  | nil => rfl
  | cons x r ih => simpa [okCells] using ih
theorem Ct.cells_ints (k : IntKind) (l : List Int) : (Ct.ints k l).cells = l.map (.int k) := rfl
theorem madeCells_one (v : Value) (n : Nat) : (madeCells #[v] n).toList = List.replicate n v := by
  apply List.ext_getElem
  · simp [madeCells]
  · intro j h1 h2
    have h0 : ∀ x : Nat, x % (#[v] : Array Value).size = 0 := fun x => by simp [Nat.mod_one]
    simp only [madeCells, Array.toList_map, List.getElem_map, List.getElem_replicate, h0]
    rfl
theorem yes_makeSlice (h : RepB V β w0 N e m a w) {t : TypeId} {i : TI} (ht : TyOk P t i) {el : TypeId} (hi : i.kind = .slice el) {ei : TI} (hel : TyOk P el ei) {k : IntKind} (hk : ei.kind = .int k) {x y : Operand} {n n' : Int}
    (hx : opd ⟨e, m⟩ x = .v (.int .i64 n)) (hy : opd ⟨e, m⟩ y = .v (.int .i64 n')) (hp : n = n' ∧ 0 ≤ n ∧ n * ei.bytes ≤ 140737488355328) (hb : 1 ≤ ei.bytes) {key : Nat} (hkey : m key = none) :
    Yes P V ⟨d, .makeSlice t x y, tt, pos, after, g⟩ w0 N e (fun j => if j = key then some (.ints k (List.replicate n.toNat 0), false) else m j) a w (.ow key) := by
  obtain ⟨rfl, h0, h1⟩ := hp
  have hkd := ht.kind
  rw [hi] at hkd
  have hke := hel.kind
  rw [hk] at hke
  obtain ⟨q, hq, hq1, hq2, z, hz, hzc⟩ := hel.info
  have hz1 : z.cells = #[.int k 0] := by apply Array.ext'; rw [hzc, hke.2.2.1]
  have hn63 : n ≤ 140737488355328 := by
    have : n * 1 ≤ n * (ei.bytes : Int) := Int.mul_le_mul_of_nonneg_left (by omega) h0
    omega
  have hr := run_make (P := P) w t el q z hkd.1 hq hz .i64 .i64 n n h0 (Int.le_refl _) (by rw [hq2, Int.mul_comm]; omega) (by omega)
  rw [hq1, hke.2.2.2, Nat.mul_one, hz1] at hr
  have hcells : (madeCells #[Value.int k 0] n.toNat).toList = (Ct.ints k (List.replicate n.toNat 0)).cells := by rw [madeCells_one, Ct.cells_ints, List.map_replicate]
  have hB := h.alloc1 hkey (.ints k (List.replicate n.toNat 0)) (okCells_ints _ _) _ hcells el
  refine ⟨.slice (some ⟨w.heap.size, 0, none⟩) n.toNat n.toNat, _, _, ?_, hB, ?_⟩
  · simp [execOp, opd_v h hx, opd_v h hy, hr]
  · refine ⟨.ints k (List.replicate n.toNat 0), false, n.toNat, by simp, ⟨by simp only [maxLen]; omega, fun b hb => by have := hB.bsz (key := key) (c := .ints k (List.replicate n.toNat 0)) (fr := false) (by simp) hb; simp [Ct.len] at this; omega⟩, by simp [Ct.len], .inr ⟨w.heap.size, addβ_one _ _ _, by simp [Ct.len]⟩⟩
theorem yes_buildSliceS (h : RepB V β w0 N e m a w) {t : TypeId} {i : TI} (ht : TyOk P t i) {el : TypeId} (hi : i.kind = .slice el) {ei : TI} (hel : TyOk P el ei) {n : Nat} (hn1 : 1 ≤ n) (hs1 : 1 ≤ ei.size) (hn : n * ei.size ≤ 1000) {parts : Array (Nat × Operand)} {cs : List Value}
    (hf : fillParts (fun j => some (j * ei.size, ei.size)) ⟨e, m⟩ parts.toList (stCells n ei.size ei.zero) = some cs) (hok : okCells cs = true) {key : Nat} (hkey : m key = none) :
    Yes P V ⟨d, .buildSlice t n parts, tt, pos, after, g⟩ w0 N e (fun j => if j = key then some (.vals cs, false) else m j) a w (.ows key n) := by
  have hkd := ht.kind
  rw [hi] at hkd
  obtain ⟨z, hz, hzc⟩ := hel.run_zero w
  have hfill := fill_of h (place := fun i => some (i * ei.size, ei.size)) (fun j r hj => by simpa using hj) _ _ _ hf
  have hpos : 1 ≤ n * ei.size := Nat.mul_le_mul hn1 hs1
  have h0 : ¬ n * ei.size = 0 := by omega
  have hzs : z.cells.size = ei.size := by rw [← Array.length_toList, hzc]; exact hel.zero.2
  have hrep : (stCells n ei.size ei.zero).toArray = (Array.range (n * ei.size)).map (z.cells[· % z.cells.size]!) := by
    apply Array.ext'
    simp only [stCells, Array.toList_map, Array.toList_range]
    apply List.map_congr_left
    intro q _
    rw [hzs, ← hzc, List.getD_eq_getElem?_getD, getElem!_def, Array.getElem?_toList]
    cases z.cells[q % ei.size]? <;> rfl
  rw [hrep] at hfill
  refine ⟨.slice (some ⟨w.heap.size, 0, none⟩) n n, _, _, ?_, h.alloc1 hkey (.vals cs) hok cs.toArray (by simp [Ct.cells]) el, ?_⟩
  · have hle : ¬ (n * ei.size > 2 ^ 24) := by omega
    have hmap : (parts.map fun (i, x) => (i, a.eval x)).toList = parts.toList.map fun p => (p.1, a.eval p.2) := by simp
    simp only [execOp, Instr.buildSlice, Sem.run_bind, run_underlying hkd.1, Result.andThen_ok, hel.run_size]
    rw [if_neg hle, if_neg h0]
    simp only [Sem.run_pure, Sem.run_bind, Result.andThen_ok, hz, hmap]
    rw [hfill]
    simp [newRow]
  · refine ⟨.vals cs, false, n, w.heap.size, by simp, addβ_one _ _ _, Nat.le_refl _, ?_, rfl⟩
    have : n ≤ n * ei.size := Nat.le_mul_of_pos_right n hs1
    simp only [maxLen]; omega
theorem yes_buildSlice (h : RepB V β w0 N e m a w) {t : TypeId} {i : TI} (ht : TyOk P t i) {el : TypeId} (hi : i.kind = .slice el) {ei : TI} (hel : TyOk P el ei) {k : IntKind} (hk : ei.kind = .int k) {n : Nat} (hn : n ≤ 1000) {parts : Array (Nat × Operand)} {cs : List Value} {l : List Int}
    (hf : fillParts (fun j => some (j, 1)) ⟨e, m⟩ parts.toList (List.replicate n (.int k 0)) = some cs) (hl : toInts k cs = some l) {key : Nat} (hkey : m key = none) (hlen : cs.length = n) :
    Yes P V ⟨d, .buildSlice t n parts, tt, pos, after, g⟩ w0 N e (fun j => if j = key then some (.ints k l, false) else m j) a w (.ow key) := by
  have hkd := ht.kind
  rw [hi] at hkd
  have hke := hel.kind
  rw [hk] at hke
  obtain ⟨z, hz, hzc⟩ := hel.run_zero w
  have hz1 : z.cells = #[.int k 0] := by apply Array.ext'; rw [hzc, hke.2.2.1]
  have hfill := fill_of h (place := fun i => some (i * 1, 1)) (fun j r hj => by simpa using hj) _ _ _ hf
  have hcs := toInts_map hl
  have hrep : (List.replicate n (Value.int k 0)).toArray = (Array.range (n * 1)).map ((if n * 1 = 0 then (#[] : Array Value) else #[.int k 0])[· % (if n * 1 = 0 then (#[] : Array Value) else #[.int k 0]).size]!) := by
    apply Array.ext'
    have := madeCells_one (.int k 0) n
    simp only [madeCells] at this
    by_cases h0 : n = 0
    · subst h0; simp
    · simp only [Nat.mul_one, if_neg h0]
      exact this.symm
  rw [hrep] at hfill
  have hB := h.alloc1 hkey (.ints k l) (okCells_ints _ _) cs.toArray (by rw [Ct.cells_ints]; simpa using hcs) el
  refine ⟨.slice (some ⟨w.heap.size, 0, none⟩) n n, _, _, ?_, hB, ?_⟩
  · have hle : ¬ (n * 1 > 2 ^ 24) := by omega
    have hmap : (parts.map fun (i, x) => (i, a.eval x)).toList = parts.toList.map fun p => (p.1, a.eval p.2) := by simp
    by_cases h0 : n * 1 = 0
    · simp only [execOp, Instr.buildSlice, Sem.run_bind, run_underlying hkd.1, Result.andThen_ok, hel.run_size, hke.2.2.2]
      rw [if_neg hle, if_pos h0]
      simp only [Sem.run_pure, Sem.run_bind, Result.andThen_ok, hmap]
      rw [if_pos h0] at hfill
      rw [hfill]
      simp [newRow]
    · simp only [execOp, Instr.buildSlice, Sem.run_bind, run_underlying hkd.1, Result.andThen_ok, hel.run_size, hke.2.2.2]
      rw [if_neg hle, if_neg h0]
      simp only [Sem.run_pure, Sem.run_bind, Result.andThen_ok, hz, hz1, hmap]
      rw [if_neg h0] at hfill
      rw [hfill]
      simp [newRow]
  · have hll : l.length = n := by rw [← hlen, hcs]; simp
    refine ⟨.ints k l, false, n, by simp, ⟨by simp only [maxLen]; omega, fun b hb => by have := hB.bsz (key := key) (c := .ints k l) (fr := false) (by simp) hb; simp [Ct.len, hll] at this; omega⟩, by simp [Ct.len, hll], .inr ⟨w.heap.size, addβ_one _ _ _, by simp [Ct.len, hll]⟩⟩
theorem yes_max (h : RepB V β w0 N e m a w) {x y : Operand} {ts : Array TypeId} {k k' : IntKind} {u v : Int} (hx : opd ⟨e, m⟩ x = .v (.int k u)) (hy : opd ⟨e, m⟩ y = .v (.int k' v)) :
    Yes P V ⟨d, .call ⟨.builtin .max, #[x, y], ts⟩, tt, pos, after, g⟩ w0 N e m a w (.v (.int k (max u v))) := by
  refine .same h (v := .int k (max u v)) ?_ rfl
  have : (if v > u then v else u) = max u v := by omega
  simp [execOp, resolve, invoke, builtin, run_max_int2, opd_v h hx, opd_v h hy, this]
theorem yes_min (h : RepB V β w0 N e m a w) {x y : Operand} {ts : Array TypeId} {k k' : IntKind} {u v : Int} (hx : opd ⟨e, m⟩ x = .v (.int k u)) (hy : opd ⟨e, m⟩ y = .v (.int k' v)) :
    Yes P V ⟨d, .call ⟨.builtin .min, #[x, y], ts⟩, tt, pos, after, g⟩ w0 N e m a w (.v (.int k (min u v))) := by
  refine .same h (v := .int k (min u v)) ?_ rfl
  have : (if v < u then v else u) = min u v := by omega
  simp [execOp, resolve, invoke, builtin, run_min_int2, opd_v h hx, opd_v h hy, this]
theorem yes_len_sl (h : RepB V β w0 N e m a w) {t : TypeId} {i : TI} (ht : TyOk P t i) {el : TypeId} (hi : i.kind = .slice el) {x : Operand} {n : Nat} (hn : slLen ⟨e, m⟩ (opd ⟨e, m⟩ x) = some n) :
    Yes P V ⟨d, .call ⟨.builtin .len, #[x], #[t]⟩, tt, pos, after, g⟩ w0 N e m a w (.v (.int .i64 n)) := by
  have hkd := ht.kind
  rw [hi] at hkd
  obtain ⟨A, cap, hv, _⟩ := opd_len h hn
  refine .same h (v := .int .i64 n) ?_ rfl
  simp [execOp, resolve, invoke, builtin, Builtin.len_, run_underlying hkd.1, hv, goInt]
end Go.AM
