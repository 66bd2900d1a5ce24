/- Part AmS1 of the proof: own text. -/
import Derived.Test.YtknejocjkjpfmaaAmDefs
import Derived.Laws.MakeOwn
import Derived.Laws.Externs
import Derived.Laws.Rows
import Derived.Laws.Slices
import Derived.Laws.Small
set_option linter.all false
namespace Go.AM
open Go.RowKit (Below)

/-- No unfrozen block of the call's own is number b. -/
def Apart (β : Nat → Option Nat) (m : Mem) (b : Nat) : Prop := ∀ key c, m key = some (c, false) → β key ≠ some b

/-- The length of a block's row. -/
def bsz (w : World) (b : Nat) : Nat := match w.heap[b]? with
  | some (.cells arr _ _) => arr.size
  | _ => 0
/-- Behind a slice the row is as long as the slice's cap says. -/
def CapOk (w : World) (β : Nat → Option Nat) (key lo cap : Nat) : Prop := cap ≤ maxLen ∧ ∀ b, β key = some b → lo + cap ≤ bsz w b
def RepS (V : Nat → Prop) (β : Nat → Option Nat) (m : Mem) (w : World) : AV → Value → Prop
  | .v x, v => v = x
  | .pt x, v => ∃ ad : Addr, v = .pointer (some ad) ∧ w.cell? ad = some x ∧ Apart β m ad.block
  | .rd k l, v => ∃ A cap, v = .slice A l.length cap ∧ l.length ≤ cap ∧ cap ≤ maxLen ∧ (l ≠ [] → ∃ ad : Addr, A = some ad ∧ (V ad.block ∧ Apart β m ad.block) ∧ ∀ i, i < l.length → w.cell? (ad.add i) = some (.int k (l.getD i 0)))
  | .ref key off, v => (m key).isSome = true ∧ ∃ b, β key = some b ∧ v = .pointer (some ⟨b, off, none⟩)
  | .ow key, v => ∃ c fr cap, m key = some (c, fr) ∧ CapOk w β key 0 cap ∧ c.len ≤ cap ∧ ((β key = none ∧ c.len = 0 ∧ v = .slice none 0 0) ∨ ∃ b, β key = some b ∧ v = .slice (some ⟨b, 0, none⟩) c.len cap)
  | .al key lo n, v => (∃ c fr, m key = some (c, fr) ∧ lo + n ≤ c.len) ∧ ∃ A cap, v = .slice A n cap ∧ n ≤ cap ∧ CapOk w β key lo cap ∧ (0 < n ∨ lo = 0 → (β key = none ∧ A = none ∧ n = 0 ∧ cap = 0) ∨ ∃ b, β key = some b ∧ A = some ⟨b, lo, none⟩)
  | .ows key n, v => ∃ c fr cap b, m key = some (c, fr) ∧ β key = some b ∧ n ≤ cap ∧ cap ≤ maxLen ∧ v = .slice (some ⟨b, 0, none⟩) n cap
  | .tup _, _ => False
  | .dead, _ => True

def RepL (V : Nat → Prop) (β : Nat → Option Nat) (m : Mem) (w : World) : List AV → List Value → Prop
  | [], [] => True
  | a :: as, v :: vs => RepS V β m w a v ∧ RepL V β m w as vs
  | _, _ => False

def RepA (V : Nat → Prop) (β : Nat → Option Nat) (m : Mem) (w : World) : AV → Value → Prop
  | .tup l, v => ∃ vs : List Value, v = .tuple vs.toArray ∧ RepL V β m w l vs
  | a, v => RepS V β m w a v

/-- The blocks of the call's own hold what is told of them. -/
def MemOk (B : Nat) (β : Nat → Option Nat) (m : Mem) (w : World) : Prop :=
  ∀ key c fr, m key = some (c, fr) → okCells c.cells = true ∧ ((β key = none ∧ c.len = 0) ∨
    ∃ b arr T rest, β key = some b ∧ B ≤ b ∧ w.heap[b]? = some (.cells arr T (0, 0)) ∧ arr.toList = c.cells ++ rest)
def Inj (β : Nat → Option Nat) (m : Mem) : Prop := ∀ k k' b, (m k).isSome = true → (m k').isSome = true → β k = some b → β k' = some b → k = k'

structure RepB (V : Nat → Prop) (β : Nat → Option Nat) (w0 : World) (N : Nat) (e : Env) (m : Mem) (a : Act) (w : World) : Prop where
  fresh : ∀ b, w0.heap.size ≤ b → V b
  below : Below w0.heap.size w0 w
  size : a.tmps.size = N
  defers : a.defers = []
  mem : MemOk w0.heap.size β m w
  inj : Inj β m
  slots : ∀ k av, e k = some av → ∃ v, a.tmps[k]? = some v ∧ RepA V β m w av v
def Rep (V : Nat → Prop) (w0 : World) (N : Nat) (e : Env) (m : Mem) (a : Act) (w : World) : Prop := ∃ β, RepB V β w0 N e m a w

theorem Ct.length_cells (c : Ct) : c.cells.length = c.len := by cases c <;> simp [Ct.cells, Ct.len]

/-! ### What stays -/
/-- The world w' has what w had. -/
structure Ext (w w' : World) : Prop where
  os : w'.os = w.os
  tape : w'.tape = w.tape
  output : w'.output = w.output
  size : w.heap.size ≤ w'.heap.size
  block : ∀ k, k < w.heap.size → w'.heap[k]? = w.heap[k]?
theorem Ext.refl (w : World) : Ext w w := ⟨rfl, rfl, rfl, Nat.le_refl _, fun _ _ => rfl⟩
theorem Ext.of_below {w w' : World} (h : Below w.heap.size w w') : Ext w w' := ⟨h.os, h.tape, h.output, h.size, h.block⟩
theorem Ext.alloc (w : World) (o : Obj) : Ext w (w.alloc o) := ⟨rfl, rfl, rfl, by simp, fun k hk => heap_alloc_old w o k hk⟩
theorem Ext.drew (w : World) : Ext w w.drew := ⟨rfl, rfl, rfl, Nat.le_refl _, fun _ _ => rfl⟩
theorem Ext.cell {w w' : World} (h : Ext w w') {a : Addr} {v : Value} (hc : w.cell? a = some v) : w'.cell? a = some v :=
  (World.cell?_of_block (w := w) (h.block a.block (World.block_lt_of_cell? w a hc))).trans hc
theorem Ext.heap {w w' : World} (h : Ext w w') {b : Nat} {o : Obj} (hb : w.heap[b]? = some o) : w'.heap[b]? = some o :=
  (h.block b (Array.getElem?_eq_some_iff.1 hb).1).trans hb
theorem Ext.below {w0 w w' : World} (h : Ext w w') (hb : Below w0.heap.size w0 w) : Below w0.heap.size w0 w' :=
  hb.trans ⟨h.os, h.tape, h.output, h.size, fun k hk => h.block k (Nat.lt_of_lt_of_le hk hb.size)⟩

theorem bsz_ext {w w' : World} (h : Ext w w') (b : Nat) : bsz w b ≤ bsz w' b := by
  by_cases hb : b < w.heap.size
  · unfold bsz; rw [h.block b hb]; exact Nat.le_refl _
  · have : w.heap[b]? = none := Array.getElem?_eq_none (by omega)
    simp [bsz, this]
theorem CapOk.mono {w w' : World} {β β' : Nat → Option Nat} {key key' lo cap : Nat} (h : CapOk w β key lo cap) (hβ : β' key' = β key) (hw : ∀ b, β key = some b → bsz w b ≤ bsz w' b) : CapOk w' β' key' lo cap :=
  ⟨h.1, fun b hb => Nat.le_trans (h.2 b (hβ ▸ hb)) (hw b (hβ ▸ hb))⟩
theorem RepS.ext {V : Nat → Prop} {β m} {w w' : World} (h : Ext w w') : ∀ {av v}, RepS V β m w av v → RepS V β m w' av v := by
  intro av v hr
  cases av with
  | v x => exact hr
  | pt x => obtain ⟨ad, h1, h2, h3⟩ := hr; exact ⟨ad, h1, h.cell h2, h3⟩
  | rd k l => obtain ⟨A, cap, h1, h2, h3, h4⟩ := hr; exact ⟨A, cap, h1, h2, h3, fun hl => by obtain ⟨ad, e, hap, hc⟩ := h4 hl; exact ⟨ad, e, hap, fun i hi => h.cell (hc i hi)⟩⟩
  | ref key off => exact hr
  | ow key => obtain ⟨c, fr, cap, h1, h2, h3⟩ := hr; exact ⟨c, fr, cap, h1, h2.mono rfl (fun b _ => bsz_ext h b), h3⟩
  | al key lo n => obtain ⟨h0, A, cap, h1, h2, h3, h4⟩ := hr; exact ⟨h0, A, cap, h1, h2, h3.mono rfl (fun b _ => bsz_ext h b), h4⟩
  | ows key n => exact hr
  | tup l => exact hr
  | dead => trivial
theorem RepL.ext {V : Nat → Prop} {β m} {w w' : World} (h : Ext w w') : ∀ {l vs}, RepL V β m w l vs → RepL V β m w' l vs
  | [], [], _ => trivial
  | _ :: _, _ :: _, ⟨h1, h2⟩ => ⟨h1.ext h, RepL.ext h h2⟩
  | [], _ :: _, h => h
  | _ :: _, [], h => h
theorem RepA.ext {V : Nat → Prop} {β m} {w w' : World} (h : Ext w w') {av v} (hr : RepA V β m w av v) : RepA V β m w' av v := by
  cases av with
  | tup l => obtain ⟨vs, e, hl⟩ := hr; exact ⟨vs, e, RepL.ext h hl⟩
  | v x => exact hr
  | pt x => exact RepS.ext (V := V) h (av := .pt x) hr
  | rd k l => exact RepS.ext (V := V) h (av := .rd k l) hr
  | ref key off => exact RepS.ext (V := V) h (av := .ref key off) hr
  | ow key => exact RepS.ext (V := V) h (av := .ow key) hr
  | al key lo n => exact RepS.ext (V := V) h (av := .al key lo n) hr
  | ows key n => exact RepS.ext (V := V) h (av := .ows key n) hr
  | dead => trivial
theorem MemOk.ext {B β m} {w w' : World} (h : Ext w w') (hm : MemOk B β m w) : MemOk B β m w' := fun key c fr hk => by
  obtain ⟨ho, hb⟩ := hm key c fr hk
  refine ⟨ho, ?_⟩
  rcases hb with hb | ⟨b, arr, T, rest, h1, h2, h3, h4⟩
  · exact .inl hb
  · exact .inr ⟨b, arr, T, rest, h1, h2, h.heap h3, h4⟩

/-- The slots' meaning under another table of blocks: as far as the keys that are told agree. -/
theorem RepS.keys {V : Nat → Prop} {β β' m m'} {w : World} (hb : ∀ key, (m key).isSome = true → β' key = β key) (hm : ∀ key c fr, m key = some (c, fr) → ∃ c' fr', m' key = some (c', fr') ∧ c'.len = c.len)
    (hap : ∀ b, b < w.heap.size → Apart β m b → Apart β' m' b) : ∀ {av v}, RepS V β m w av v → RepS V β' m' w av v := by
  intro av v hr
  have hs : ∀ key, (m key).isSome = true → (m' key).isSome = true := fun key h => by
    obtain ⟨⟨c, fr⟩, hc⟩ := Option.isSome_iff_exists.1 h
    obtain ⟨c', fr', hc', _⟩ := hm key c fr hc
    simp [hc']
  cases av with
  | v x => exact hr
  | pt x => obtain ⟨ad, h1, h2, h3⟩ := hr; exact ⟨ad, h1, h2, hap _ (World.block_lt_of_cell? w ad h2) h3⟩
  | rd k l =>
    obtain ⟨A, cap, h1, h2, h3, h4⟩ := hr
    refine ⟨A, cap, h1, h2, h3, fun hl => ?_⟩
    obtain ⟨ad, e, hp, hc⟩ := h4 hl
    refine ⟨ad, e, ⟨hp.1, hap _ ?_ hp.2⟩, hc⟩
    have h0 := World.block_lt_of_cell? w _ (hc 0 (List.length_pos_iff.2 hl))
    unfold Addr.add at h0
    split at h0 <;> simpa using h0
  | ref key off => obtain ⟨h0, b, h1, h2⟩ := hr; exact ⟨hs _ h0, b, (hb _ h0).trans h1, h2⟩
  | ow key =>
    obtain ⟨c, fr, cap, h1, h2, h3, h4⟩ := hr
    obtain ⟨c', fr', h1', hl⟩ := hm key c fr h1
    have hbk := hb key (by simp [h1])
    exact ⟨c', fr', cap, h1', h2.mono hbk (fun b _ => Nat.le_refl _), hl ▸ h3, by rw [hbk, hl]; exact h4⟩
  | al key lo n =>
    obtain ⟨⟨c, fr, h0, hl⟩, A, cap, h1, h2, h3, h4⟩ := hr
    obtain ⟨c', fr', h0', hl'⟩ := hm key c fr h0
    exact ⟨⟨c', fr', h0', by omega⟩, A, cap, h1, h2, h3.mono (hb key (by simp [h0])) (fun b _ => Nat.le_refl _), fun hn => by rw [hb key (by simp [h0])]; exact h4 hn⟩
  | ows key n =>
    obtain ⟨c, fr, cap, b, h0, h1, h2, h3, h4⟩ := hr
    obtain ⟨c', fr', h0', _⟩ := hm key c fr h0
    exact ⟨c', fr', cap, b, h0', (hb key (by simp [h0])).trans h1, h2, h3, h4⟩
  | tup l => exact hr
  | dead => trivial
theorem RepL.keys {V : Nat → Prop} {β β' m m'} {w : World} (hb : ∀ key, (m key).isSome = true → β' key = β key) (hm : ∀ key c fr, m key = some (c, fr) → ∃ c' fr', m' key = some (c', fr') ∧ c'.len = c.len)
    (hap : ∀ b, b < w.heap.size → Apart β m b → Apart β' m' b) : ∀ {l vs}, RepL V β m w l vs → RepL V β' m' w l vs
  | [], [], _ => trivial
  | _ :: _, _ :: _, ⟨h1, h2⟩ => ⟨h1.keys hb hm hap, RepL.keys hb hm hap h2⟩
  | [], _ :: _, h => h
  | _ :: _, [], h => h
theorem RepA.of_S {V : Nat → Prop} {β m w av v} (h : RepS V β m w av v) : RepA V β m w av v := by
  cases av with
  | tup l => exact h.elim
  | _ => exact h
theorem RepA.keys {V : Nat → Prop} {β β' m m'} {w : World} (hb : ∀ key, (m key).isSome = true → β' key = β key) (hm : ∀ key c fr, m key = some (c, fr) → ∃ c' fr', m' key = some (c', fr') ∧ c'.len = c.len)
    (hap : ∀ b, b < w.heap.size → Apart β m b → Apart β' m' b) {av v} (hr : RepA V β m w av v) : RepA V β' m' w av v := by
  cases av with
  | tup l => obtain ⟨vs, e, hl⟩ := hr; exact ⟨vs, e, RepL.keys hb hm hap hl⟩
  | v x => exact hr
  | pt x => exact RepS.keys (V := V) hb hm hap (av := .pt x) hr
  | rd k l => exact RepS.keys (V := V) hb hm hap (av := .rd k l) hr
  | ref key off => exact RepS.keys (V := V) hb hm hap (av := .ref key off) hr
  | ow key => exact RepS.keys (V := V) hb hm hap (av := .ow key) hr
  | al key lo n => exact RepS.keys (V := V) hb hm hap (av := .al key lo n) hr
  | ows key n => exact RepS.keys (V := V) hb hm hap (av := .ows key n) hr
  | dead => trivial

/-! ### Moves of the state -/
section
variable {V : Nat → Prop} {β : Nat → Option Nat} {w0 w w' : World} {N : Nat} {e : Env} {m : Mem} {a : Act}
theorem RepB.opd (h : RepB V β w0 N e m a w) (x : Operand) : RepA V β m w (opd ⟨e, m⟩ x) (a.eval x) := by
  cases x with
  | tmp t =>
    simp only [AM.opd, Act.eval]
    cases he : e t with
    | none => exact trivial
    | some av =>
      obtain ⟨v, hv, hr⟩ := h.slots t av he
      have : a.tmps.getD t undef = v := by simp [hv]
      rw [this]
      exact hr
  | const v => rfl
  | global g => exact trivial
  | func f => exact trivial
theorem RepB.ext (h : RepB V β w0 N e m a w) (hx : Ext w w') : RepB V β w0 N e m a w' :=
  ⟨h.fresh, hx.below h.below, h.size, h.defers, h.mem.ext hx, h.inj, fun k av he => by obtain ⟨v, hv, hr⟩ := h.slots k av he; exact ⟨v, hv, hr.ext hx⟩⟩
theorem lk_cons (d : Nat) {α : Type} (x : α) (l : List (Nat × α)) (k : Nat) : lk ((d, x) :: l) k = if k = d then some x else lk l k := rfl
theorem RepB.put {env : List (Nat × AV)} (h : RepB V β w0 N (lk env) m a w) {d : Nat} (hd : d < N) {av : AV} {v : Value} (hv : RepA V β m w av v) :
    RepB V β w0 N (lk ((d, av) :: env)) m (a.put (some d) v) w := by
  refine ⟨h.fresh, h.below, by simp [Act.put, h.size], h.defers, h.mem, h.inj, fun k av' he => ?_⟩
  rw [lk_cons] at he
  by_cases hk : k = d
  · subst hk
    simp only [if_true] at he
    cases he
    exact ⟨v, by simp [Act.put, h.size, hd], hv⟩
  · rw [if_neg hk] at he
    obtain ⟨u, hu, hr⟩ := h.slots k av' he
    exact ⟨u, by simp only [Act.put]; rw [Array.getElem?_setIfInBounds_ne (by omega)]; exact hu, hr⟩
theorem RepB.putNone (h : RepB V β w0 N e m a w) (v : Value) : RepB V β w0 N e m (a.put none v) w := h
/-- New blocks, by their keys: their contents and numbers (none: a nil slice). -/
def addβ (adds : List (Nat × Ct × Option Nat)) (β : Nat → Option Nat) (key : Nat) : Option Nat :=
  match lk adds key with
  | some (_, bo) => bo
  | none => β key
def addm (adds : List (Nat × Ct × Option Nat)) (m : Mem) : Mem := fun key =>
  match lk adds key with
  | some (c, _) => some (c, false)
  | none => m key
theorem RepB.adds (h : RepB V β w0 N e m a w) (hx : Ext w w') (adds : List (Nat × Ct × Option Nat)) (hf : ∀ key x, lk adds key = some x → m key = none)
    (hok : ∀ key c bo, lk adds key = some (c, bo) → okCells c.cells = true ∧ ((bo = none ∧ c.len = 0) ∨
      ∃ b arr T rest, bo = some b ∧ w.heap.size ≤ b ∧ w'.heap[b]? = some (.cells arr T (0, 0)) ∧ arr.toList = c.cells ++ rest))
    (hi : ∀ k k' c c' b, lk adds k = some (c, some b) → lk adds k' = some (c', some b) → k = k') :
    RepB V (addβ adds β) w0 N e (addm adds m) a w' := by
  have hlt : ∀ key b, (m key).isSome = true → β key = some b → b < w.heap.size := fun key b hs hb => by
    obtain ⟨⟨c, fr⟩, hc⟩ := Option.isSome_iff_exists.1 hs
    obtain ⟨_, h1 | ⟨b', arr, T, rest, h1, _, h3, _⟩⟩ := h.mem key c fr hc
    · rw [hb] at h1; exact absurd h1.1 (by simp)
    · rw [hb] at h1; cases h1; exact (Array.getElem?_eq_some_iff.1 h3).1
  have hold : ∀ key, (m key).isSome = true → lk adds key = none := fun key hs => by
    cases hl : lk adds key with
    | none => rfl
    | some x => rw [hf key x hl] at hs; cases hs
  have hβ : ∀ key, (m key).isSome = true → addβ adds β key = β key := fun key hs => by simp [addβ, hold key hs]
  have hm : ∀ key c fr, m key = some (c, fr) → ∃ c' fr', addm adds m key = some (c', fr') ∧ c'.len = c.len := fun key c fr hk => ⟨c, fr, by simp [addm, hold key (by simp [hk]), hk], rfl⟩
  refine ⟨h.fresh, hx.below h.below, h.size, h.defers, ?_, ?_, fun k av he => ?_⟩
  · intro key c fr hk
    unfold addm at hk
    cases hl : lk adds key with
    | none =>
      simp only [hl] at hk
      have := h.mem.ext hx key c fr hk
      simpa [addβ, hl] using this
    | some x =>
      obtain ⟨c', bo⟩ := x
      simp only [hl, Option.some.injEq, Prod.mk.injEq] at hk
      obtain ⟨rfl, rfl⟩ := hk
      obtain ⟨ho, hr⟩ := hok key c' bo hl
      refine ⟨ho, ?_⟩
      rcases hr with ⟨rfl, h0⟩ | ⟨b, arr, T, rest, rfl, h2, h3, h4⟩
      · exact .inl ⟨by simp [addβ, hl], h0⟩
      · exact .inr ⟨b, arr, T, rest, by simp [addβ, hl], Nat.le_trans h.below.size h2, h3, h4⟩
  · intro k k' b hk hk' hb hb'
    have key : ∀ k, (addm adds m k).isSome = true → addβ adds β k = some b → (∃ c, lk adds k = some (c, some b) ∧ w.heap.size ≤ b) ∨ ((m k).isSome = true ∧ β k = some b ∧ b < w.heap.size) := fun k hk hb => by
      cases hl : lk adds k with
      | none =>
        simp only [addm, hl] at hk
        simp only [addβ, hl] at hb
        exact .inr ⟨hk, hb, hlt k b hk hb⟩
      | some x =>
        obtain ⟨c, bo⟩ := x
        simp only [addβ, hl] at hb
        subst hb
        obtain ⟨_, h1 | ⟨b', _, _, _, h1, h2, _⟩⟩ := hok k c (some b) hl
        · exact absurd h1.1 (by simp)
        · cases h1; exact .inl ⟨c, rfl, h2⟩
    rcases key k hk hb with ⟨c, h1, h2⟩ | ⟨h1, h2, h3⟩
    · rcases key k' hk' hb' with ⟨c', h1', _⟩ | ⟨_, _, h3'⟩
      · exact hi k k' c c' b h1 h1'
      · omega
    · rcases key k' hk' hb' with ⟨c', _, h2'⟩ | ⟨h1', h2', _⟩
      · omega
      · exact h.inj k k' b h1 h1' h2 h2'
  · obtain ⟨v, hv, hr⟩ := h.slots k av he
    refine ⟨v, hv, RepA.ext hx (RepA.keys hβ hm (fun b hb hap => ?_) hr)⟩
    intro key c hk hbk
    unfold addm at hk
    cases hl : lk adds key with
    | none =>
      simp only [hl] at hk
      simp only [addβ, hl] at hbk
      exact hap key c hk hbk
    | some x =>
      obtain ⟨c', bo⟩ := x
      simp only [addβ, hl] at hbk
      subst hbk
      obtain ⟨_, h1 | ⟨b', _, _, _, h1, h2, _⟩⟩ := hok key c' (some b) hl
      · exact absurd h1.1 (by simp)
      · cases h1; omega
/-- Some contents are read only from here on. -/
theorem RepB.freeze (h : RepB V β w0 N e m a w) {m' : Mem} (hm : ∀ key, m' key = m key ∨ ∃ c fr, m key = some (c, fr) ∧ m' key = some (c, true)) : RepB V β w0 N e m' a w := by
  have hback : ∀ key c fr, m' key = some (c, fr) → ∃ fr', m key = some (c, fr') ∧ (fr = false → fr' = false) := fun key c fr hk => by
    rcases hm key with h1 | ⟨c', fr', h1, h2⟩
    · exact ⟨fr, h1 ▸ hk, id⟩
    · rw [h2] at hk; simp only [Option.some.injEq, Prod.mk.injEq] at hk; obtain ⟨rfl, rfl⟩ := hk; exact ⟨fr', h1, fun h => by cases h⟩
  have hforth : ∀ key c fr, m key = some (c, fr) → ∃ c' fr', m' key = some (c', fr') ∧ c'.len = c.len := fun key c fr hk => by
    rcases hm key with h1 | ⟨c', fr', h1, h2⟩
    · exact ⟨c, fr, h1.trans hk, rfl⟩
    · rw [h1] at hk; simp only [Option.some.injEq, Prod.mk.injEq] at hk; obtain ⟨rfl, rfl⟩ := hk; exact ⟨c', true, h2, rfl⟩
  have hsome : ∀ key, (m' key).isSome = true → (m key).isSome = true := fun key hs => by
    obtain ⟨⟨c, fr⟩, hc⟩ := Option.isSome_iff_exists.1 hs
    obtain ⟨fr', h1, _⟩ := hback key c fr hc
    simp [h1]
  refine ⟨h.fresh, h.below, h.size, h.defers, fun key c fr hk => ?_, fun k k' b hk hk' => h.inj k k' b (hsome _ hk) (hsome _ hk'), fun k av he => ?_⟩
  · obtain ⟨fr', h1, _⟩ := hback key c fr hk
    exact h.mem key c fr' h1
  · obtain ⟨v, hv, hr⟩ := h.slots k av he
    refine ⟨v, hv, RepA.keys (fun _ _ => rfl) hforth (fun b _ hap key c hk => ?_) hr⟩
    obtain ⟨fr', h1, h2⟩ := hback key c false hk
    rw [h2 rfl] at h1
    exact hap key c h1
end
end Go.AM
