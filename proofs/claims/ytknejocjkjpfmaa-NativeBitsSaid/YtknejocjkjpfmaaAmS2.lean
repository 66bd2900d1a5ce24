/- Part AmS2 of the proof: own text. -/
import Derived.Test.YtknejocjkjpfmaaAmS1
set_option linter.all false
namespace Go.AM
open Go.RowKit (Below)
variable {P : Program} {V : Nat → Prop} {β : Nat → Option Nat} {w0 w w' : World} {N : Nat} {e : Env} {m : Mem} {a : Act}

theorem RepS.row {b : Nat} {arr' : Array Value} (hb : ∀ blk, Apart β m blk → blk ≠ b) (hz : ∀ c, bsz w c ≤ bsz (w.setRow b arr') c) : ∀ {av v}, RepS V β m w av v → RepS V β m (w.setRow b arr') av v := by
  intro av v hr
  have hc : ∀ {ad : Addr} {x : Value}, Apart β m ad.block → w.cell? ad = some x → (w.setRow b arr').cell? ad = some x := fun {ad x} hap hx =>
    (World.cell?_of_block (w := w) (setRow_other w b ad.block arr' (hb _ hap))).trans hx
  have hadd : ∀ (ad : Addr) (i : Nat), (ad.add i).block = ad.block := fun ad i => by unfold Addr.add; split <;> rfl
  cases av with
  | pt x => obtain ⟨ad, h1, h2, h3⟩ := hr; exact ⟨ad, h1, hc h3 h2, h3⟩
  | rd k l => obtain ⟨A, cap, h1, h2, h3, h4⟩ := hr; exact ⟨A, cap, h1, h2, h3, fun hl => by obtain ⟨ad, e, hap, hcc⟩ := h4 hl; exact ⟨ad, e, hap, fun i hi => hc (by rw [hadd]; exact hap.2) (hcc i hi)⟩⟩
  | ow key => obtain ⟨c, fr, cap, h1, h2, h3⟩ := hr; exact ⟨c, fr, cap, h1, h2.mono rfl (fun b _ => hz b), h3⟩
  | al key lo n => obtain ⟨h0, A, cap, h1, h2, h3, h4⟩ := hr; exact ⟨h0, A, cap, h1, h2, h3.mono rfl (fun b _ => hz b), h4⟩
  | _ => exact hr
theorem RepL.row {b : Nat} {arr' : Array Value} (hb : ∀ blk, Apart β m blk → blk ≠ b) (hz : ∀ c, bsz w c ≤ bsz (w.setRow b arr') c) : ∀ {l vs}, RepL V β m w l vs → RepL V β m (w.setRow b arr') l vs
  | [], [], _ => trivial
  | _ :: _, _ :: _, ⟨h1, h2⟩ => ⟨h1.row hb hz, RepL.row hb hz h2⟩
  | [], _ :: _, h => h
  | _ :: _, [], h => h
theorem RepA.row {b : Nat} {arr' : Array Value} (hb : ∀ blk, Apart β m blk → blk ≠ b) (hz : ∀ c, bsz w c ≤ bsz (w.setRow b arr') c) {av v} (hr : RepA V β m w av v) : RepA V β m (w.setRow b arr') av v := by
  cases av with
  | tup l => obtain ⟨vs, e, hl⟩ := hr; exact ⟨vs, e, RepL.row hb hz hl⟩
  | v x => exact hr
  | pt x => exact RepS.row (V := V) hb hz (av := .pt x) hr
  | rd k l => exact RepS.row (V := V) hb hz (av := .rd k l) hr
  | ref key off => exact hr
  | ow key => exact RepS.row (V := V) hb hz (av := .ow key) hr
  | al key lo n => exact RepS.row (V := V) hb hz (av := .al key lo n) hr
  | ows key n => exact hr
  | dead => trivial

theorem RepB.store (h : RepB V β w0 N e m a w) {key : Nat} {c c' : Ct} {b : Nat} {arr arr' : Array Value} {T : TypeId} {rest : List Value} (hk : m key = some (c, false)) (hb : β key = some b) (hB : w0.heap.size ≤ b)
    (hh : w.heap[b]? = some (.cells arr T (0, 0))) (hlen : c'.len = c.len) (hok : okCells c'.cells = true) (ha' : arr'.toList = c'.cells ++ rest) (hsz : arr.size ≤ arr'.size) :
    RepB V β w0 N e (fun k => if k = key then some (c', false) else m k) a (w.setRow b arr') := by
  have hm : ∀ k c1 fr, m k = some (c1, fr) → ∃ c2 fr', (if k = key then some (c', false) else m k) = some (c2, fr') ∧ c2.len = c1.len := fun k c1 fr hk1 => by
    by_cases hkk : k = key
    · subst hkk
      rw [hk] at hk1
      simp only [Option.some.injEq, Prod.mk.injEq] at hk1
      exact ⟨c', false, by simp, by rw [← hk1.1]; exact hlen⟩
    · exact ⟨c1, fr, by simp [hkk, hk1], rfl⟩
  have hapart : ∀ blk, Apart β m blk → blk ≠ b := fun blk hap e => hap key c hk (e ▸ hb)
  have hsome : ∀ k, ((if k = key then some (c', false) else m k) : Option (Ct × Bool)).isSome = true → (m k).isSome = true := fun k hs => by
    by_cases hkk : k = key
    · subst hkk; simp [hk]
    · simpa [hkk] using hs
  have hz : ∀ c, bsz w c ≤ bsz (w.setRow b arr') c := fun c => by
    by_cases hcb : c = b
    · subst hcb; unfold bsz; rw [hh, setRow_heap w c arr arr' T (0, 0) hh]; exact hsz
    · unfold bsz; rw [setRow_other w b c arr' hcb]; exact Nat.le_refl _
  refine ⟨h.fresh, ?_, h.size, h.defers, ?_, fun k k' b' hk1 hk2 => h.inj k k' b' (hsome _ hk1) (hsome _ hk2), fun k av he => ?_⟩
  · exact h.below.trans ⟨rfl, rfl, rfl, by simp, fun j hj => setRow_other w b j arr' (by omega)⟩
  · intro k c1 fr hk1
    by_cases hkk : k = key
    · subst hkk
      simp only [if_true, Option.some.injEq, Prod.mk.injEq] at hk1
      obtain ⟨rfl, rfl⟩ := hk1
      exact ⟨hok, .inr ⟨b, arr', T, rest, hb, hB, setRow_heap w b arr arr' T (0, 0) hh, ha'⟩⟩
    · simp only [if_neg hkk] at hk1
      obtain ⟨ho, h1 | ⟨b1, arr1, T1, rest1, h1, h2, h3, h4⟩⟩ := h.mem k c1 fr hk1
      · exact ⟨ho, .inl h1⟩
      · refine ⟨ho, .inr ⟨b1, arr1, T1, rest1, h1, h2, ?_, h4⟩⟩
        rw [setRow_other w b b1 arr' (fun e => hkk (h.inj k key b1 (by simp [hk1]) (by simp [hk]) h1 (e ▸ hb)))]
        exact h3
  · obtain ⟨v, hv, hr⟩ := h.slots k av he
    refine ⟨v, hv, RepA.keys (fun _ _ => rfl) hm (fun blk _ hap k1 c1 hk1 => ?_) (RepA.row hapart hz hr)⟩
    by_cases hkk : k1 = key
    · subst hkk; exact hap k1 c hk
    · simp only [if_neg hkk] at hk1; exact hap k1 c1 hk1

/-- What a type's row is to be. -/
structure TyOk (P : Program) (t : TypeId) (i : TI) : Prop where
  info : ∃ q : TypeInfo, P.info? t = some q ∧ q.size = i.size ∧ q.bytes = i.bytes ∧ ∃ z, q.zero = some z ∧ z.cells.toList = i.zero
  zero : okCells i.zero = true ∧ i.zero.length = i.size
  kind : match i.kind with
    | .int k => P.underlying t = some (.int k) ∧ i.agg = false ∧ i.zero = [.int k 0] ∧ i.size = 1
    | .bool => P.underlying t = some .bool ∧ i.agg = false
    | .str => P.underlying t = some .string ∧ i.agg = false
    | .float k => P.underlying t = some (.float k) ∧ i.agg = false
    | .arr n el => P.underlying t = some (.array n el) ∧ i.agg = true
    | .slice el => P.underlying t = some (.slice el) ∧ i.agg = false
    | .struct fs => i.agg = true ∧ ∃ fields : Array Field, P.underlying t = some (.struct fields) ∧ fields.toList.map (fun f => (f.offset, f.type)) = fs ∧ ∀ f ∈ fields, ∃ q, P.info? f.type = some q ∧ q.size ≠ 0
    | .other => False
  eq : i.leaf ≠ [] → P.eqGuardType P.depth t = false ∧ ∀ (xs ys : Array Value) (b : Bool) (w : World), fits i.leaf xs.toList = true → fits i.leaf ys.toList = true → leafEq xs.toList ys.toList = some b → (Op.equal t (.agg xs) (.agg ys)).run P w = .ok b w
def TysOk (P : Program) (ty : Ty) : Prop := ∀ t i, ty t = some i → TyOk P t i

theorem TyOk.run_size {t : TypeId} {i : TI} (h : TyOk P t i) (w : World) : (sizeOf t).run P w = .ok i.size w := by
  obtain ⟨q, h1, h2, _⟩ := h.info
  simp [sizeOf, typeInfo, h1, h2]
theorem TyOk.run_isAgg {t : TypeId} {i : TI} (h : TyOk P t i) (w : World) : (isAgg t).run P w = .ok i.agg w := by
  have hk := h.kind
  unfold isAgg
  cases hi : i.kind <;> simp only [hi] at hk <;> first
    | (obtain ⟨h1, h2, _, _⟩ := hk; simp [run_underlying h1, h2])
    | (obtain ⟨h1, h2⟩ := hk; simp [run_underlying h1, h2])
    | (obtain ⟨h2, fs, h1, _⟩ := hk; simp [run_underlying h1, h2])
    | exact hk.elim
theorem TyOk.run_zero {t : TypeId} {i : TI} (h : TyOk P t i) (w : World) : ∃ z, (zeroValue t).run P w = .ok z w ∧ z.cells.toList = i.zero := by
  obtain ⟨q, h1, _, _, z, h2, h3⟩ := h.info
  exact ⟨z, by simp [zeroValue, typeInfo, h1, h2], h3⟩

theorem Addr.add_plain (b o i : Nat) : (⟨b, o, none⟩ : Addr).add i = ⟨b, o + i, none⟩ := by unfold Addr.add; split <;> simp_all

theorem okCells_mem : ∀ {l : List Value}, okCells l = true → ∀ v ∈ l, v.oneCell' = true
  | [], _, _, h => by simp at h
  | x :: r, ho, v, hv => by
    have hr : okCells r = true ∧ x.oneCell' = true := by cases x <;> simp_all [okCells, Value.oneCell']
    rcases List.mem_cons.1 hv with rfl | h
    · exact hr.2
    · exact okCells_mem hr.1 v h
theorem okCells_of : ∀ {l : List Value}, (∀ v ∈ l, v.oneCell' = true) → okCells l = true
  | [], _ => rfl
  | x :: r, h => by
    have h1 := h x (by simp)
    have h2 := okCells_of (l := r) fun v hv => h v (by simp [hv])
    cases x <;> simp_all [okCells, Value.oneCell']

/-- What an operation gives. -/
def Yes (P : Program) (V : Nat → Prop) (o : Oper) (w0 : World) (N : Nat) (e : Env) (m' : Mem) (a : Act) (w : World) (av : AV) : Prop :=
  ∃ v w' β', (execOp a.eval o).run P w = .ok (.value v) w' ∧ RepB V β' w0 N e m' a w' ∧ RepA V β' m' w' av v

variable {ty : Ty} {Γ : Gam} {d : Option Tmp} {tt : TypeId} {pos : String} {after : Array Edge} {g : Option (Nat × Bool)}
theorem Yes.same (h : RepB V β w0 N e m a w) {o : Oper} {v : Value} {av : AV} (hr : (execOp a.eval o).run P w = .ok (.value v) w) (hv : RepA V β m w av v) : Yes P V o w0 N e m a w av :=
  ⟨v, w, β, hr, h, hv⟩

theorem yes_move (h : RepB V β w0 N e m a w) (x : Operand) : Yes P V ⟨d, .move x, tt, pos, after, g⟩ w0 N e m a w (opd ⟨e, m⟩ x) :=
  .same h (by simp [execOp]) (h.opd x)
theorem yes_assign (h : RepB V β w0 N e m a w) (x : Operand) : Yes P V ⟨d, .assign x, tt, pos, after, g⟩ w0 N e m a w (opd ⟨e, m⟩ x) :=
  .same h (by simp [execOp]) (h.opd x)
theorem opd_v (h : RepB V β w0 N e m a w) {x : Operand} {v : Value} (hx : opd ⟨e, m⟩ x = .v v) : a.eval x = v := by
  have := h.opd x
  rw [hx] at this
  exact this
theorem pickAV_ok (c : Bool) (x y : AV) (u v : Value) (hx : RepA V β m w x u) (hy : RepA V β m w y v) : RepA V β m w (pickAV c x y) (if c then u else v) := by
  unfold pickAV
  split
  · rename_i x y
    have h1 : u = .bool x := hx
    have h2 : v = .bool y := hy
    subst h1 h2
    cases c <;> exact rfl
  · cases c <;> simp_all
theorem yes_pick (h : RepB V β w0 N e m a w) {c x y : Operand} {b : Bool} (hc : opd ⟨e, m⟩ c = .v (.bool b)) :
    Yes P V ⟨d, .pick c x y, tt, pos, after, g⟩ w0 N e m a w (pickAV b (opd ⟨e, m⟩ x) (opd ⟨e, m⟩ y)) := by
  refine .same h ?_ (pickAV_ok b _ _ _ _ (h.opd x) (h.opd y))
  simp only [execOp, opd_v h hc, asBool]
  cases b <;> simp
theorem adds_one (key : Nat) (c : Ct) (bo : Option Nat) : addm [(key, c, bo)] m = fun k => if k = key then some (c, false) else m k := by
  funext k
  simp only [addm, lk]
  by_cases hk : k = key <;> simp [hk]
/-- A new block with these cells. -/
theorem RepB.alloc1 (h : RepB V β w0 N e m a w) {key : Nat} (hk : m key = none) (c : Ct) (hc : okCells c.cells = true) (arr : Array Value) (ha : arr.toList = c.cells) (T : TypeId) :
    RepB V (addβ [(key, c, some w.heap.size)] β) w0 N e (fun k => if k = key then some (c, false) else m k) a (w.alloc (.cells arr T)) := by
  rw [← adds_one key c (some w.heap.size)]
  refine h.adds (Ext.alloc w _) _ ?_ ?_ ?_
  · intro k x hx
    simp only [lk] at hx
    split at hx
    · rename_i hkk; subst hkk; exact hk
    · cases hx
  · intro k c1 bo hx
    simp only [lk] at hx
    split at hx
    · simp only [Option.some.injEq, Prod.mk.injEq] at hx
      obtain ⟨rfl, rfl⟩ := hx
      exact ⟨hc, .inr ⟨w.heap.size, arr, T, [], rfl, Nat.le_refl _, heap_alloc_new w _, by simpa using ha⟩⟩
    · cases hx
  · intro k k' c1 c2 b hx hx'
    simp only [lk] at hx hx'
    split at hx <;> split at hx' <;> simp_all
theorem addβ_one (key : Nat) (c : Ct) (b : Nat) : addβ [(key, c, some b)] β key = some b := by simp [addβ, lk]
theorem yes_alloc (h : RepB V β w0 N e m a w) {t : TypeId} {i : TI} (ht : TyOk P t i) {key : Nat} (hk : m key = none) :
    Yes P V ⟨d, .alloc t, tt, pos, after, g⟩ w0 N e (fun k => if k = key then some (.vals i.zero, false) else m k) a w (.ref key 0) := by
  obtain ⟨z, hz, hzc⟩ := ht.run_zero w
  refine ⟨.pointer (some ⟨w.heap.size, 0, none⟩), _, _, ?_, h.alloc1 hk (.vals i.zero) ht.zero.1 z.cells hzc t, ?_⟩
  · simp [execOp, Instr.alloc, hz, newVar, newRow]
  · exact ⟨by simp, w.heap.size, addβ_one _ _ _, rfl⟩
theorem vcells_cells (v : Value) : v.cells.toList = vcells v := by cases v <;> rfl
theorem yes_box (h : RepB V β w0 N e m a w) {t : TypeId} {x : Operand} {v : Value} (hx : opd ⟨e, m⟩ x = .v v) (ho : okCells (vcells v) = true) {key : Nat} (hk : m key = none) :
    Yes P V ⟨d, .box t x, tt, pos, after, g⟩ w0 N e (fun k => if k = key then some (.vals (vcells v), false) else m k) a w (.ref key 0) := by
  refine ⟨.pointer (some ⟨w.heap.size, 0, none⟩), _, _, ?_, h.alloc1 hk (.vals (vcells v)) ho v.cells (vcells_cells v) t, ?_⟩
  · simp [execOp, Instr.box, opd_v h hx, newVar, newRow]
  · exact ⟨by simp, w.heap.size, addβ_one _ _ _, rfl⟩
end Go.AM
