/- Part AmS13 of the proof: own text. -/
import Derived.Test.YtknejocjkjpfmaaAmS12
set_option linter.all false
namespace Go.AM
open Go.RowKit (Below)
variable {P : Program} {V : Nat → Prop} {β : Nat → Option Nat} {w0 w w' : World} {N : Nat} {e : Env} {m : Mem} {a : Act}
variable {ty : Ty} {Γ : Gam} {env : List (Nat × AV)} {mem : List (Nat × Ct × Bool)}

/-- The arguments' slots. -/
def entry : Nat → List DV → List (Nat × AV)
  | _, [] => []
  | i, .v x :: r => (i, .v x) :: entry (i + 1) r
  | i, .sl k l :: r => (i, .rd k l) :: entry (i + 1) r
/-- Does the slot hold this result? -/
def rvOk (ty : Ty) (e : Env) (m : Mem) : ResultVar → RV → Prop
  | .tmp t, .v x => match e t with
    | some (.v y) => y = x
    | _ => False
  | .tmp t, .fresh k l => match e t with
    | some (.ow key) => match m key with
      | some (.ints k' l', _) => k' = k ∧ l' = l
      | _ => False
    | some (.al key lo n) => match m key with
      | some (.ints k' l', _) => lo = 0 ∧ k' = k ∧ l'.take n = l
      | _ => False
    | some (.v (.slice none 0 0)) => l = []
    | _ => False
  | .tmp t, .cells n l => match e t with
    | some (.ows key n') => match m key with
      | some (.vals l', _) => n' = n ∧ l' = l
      | _ => False
    | _ => False
  | .tmp t, .view k l => match e t with
    | some (.rd k' l') => k' = k ∧ l' = l
    | some (.ow key) => match m key with
      | some (.ints k' l', _) => k' = k ∧ l' = l
      | _ => False
    | some (.al key lo n) => match m key with
      | some (.ints k' l', _) => k' = k ∧ (l'.drop lo).take n = l
      | _ => False
    | some (.v (.slice none 0 0)) => l = []
    | _ => False
  | .cell t u, .v x => match e t, ty u with
    | some (.ref key off), some i => match m key with
      | some (c, _) => match ldAt c off i.size i.agg with
        | some (p, y) => p ∧ y = x
        | none => False
      | none => False
    | _, _ => False
  | _, _ => False
def rvsOk (ty : Ty) (e : Env) (m : Mem) : List ResultVar → List RV → Prop
  | [], [] => True
  | v :: vs, r :: rs => rvOk ty e m v r ∧ rvsOk ty e m vs rs
  | _, _ => False
/-- The keys of the new slices that are handed back. -/
def rKeys (e : Env) : List ResultVar → List RV → List Nat
  | .tmp t :: vs, .fresh _ _ :: rs => (match e t with
    | some (.ow key) => [key]
    | some (.al key _ _) => [key]
    | _ => []) ++ rKeys e vs rs
  | .tmp t :: vs, .cells _ _ :: rs => (match e t with
    | some (.ows key _) => [key]
    | _ => []) ++ rKeys e vs rs
  | _ :: vs, _ :: rs => rKeys e vs rs
  | _, _ => []
def nodupN : List Nat → Bool
  | [] => true
  | x :: r => !(r.contains x) && nodupN r
def resOk (ty : Ty) (e : Env) (m : Mem) (vs : List ResultVar) : Res → Prop
  | .one r => match vs with
    | [v] => rvOk ty e m v r
    | _ => False
  | .many rs => vs.length ≠ 1 ∧ rvsOk ty e m vs rs ∧ nodupN (rKeys e vs rs) = true
def retP (ty : Ty) (vs : List ResultVar) (r : Res) : Post := fun ex env mem => match ex with
  | .exit _ => False
  | _ => resOk ty (lk env) (lk mem) vs r

theorem load_ref (h : RepB V β w0 N e m a w) {t : TypeId} {i : TI} (ht : TyOk P t i) {key off : Nat} {c : Ct} {fr : Bool} (hk : m key = some (c, fr)) {b : Nat} (hb : β key = some b)
    {p : Prop} {v : Value} (hl : ldAt c off i.size i.agg = some (p, v)) (hp : p) : (loadVar t ⟨b, off, none⟩).run P w = .ok v w := by
  cases c with
  | vals l =>
    simp only [ldAt] at hl
    cases hag : i.agg with
    | true =>
      simp only [hag, if_true, Option.some.injEq, Prod.mk.injEq] at hl
      obtain ⟨rfl, rfl⟩ := hl
      have hlen : ((l.drop off).take i.size).length = i.size := by simp; omega
      have hr := run_loadCells_list (P := P) w ⟨b, off, none⟩ ((l.drop off).take i.size) (fun j u hu => by
        rw [Addr.add_plain]
        refine h.cell hk hb ?_
        rw [List.getElem?_take] at hu
        split at hu
        · simpa [Ct.cells] using hu
        · cases hu)
      rw [hlen] at hr
      simp [loadVar, ht.run_isAgg, hag, ht.run_size, hr]
    | false =>
      simp only [hag, Bool.false_eq_true, if_false, Option.some.injEq, Prod.mk.injEq] at hl
      obtain ⟨rfl, rfl⟩ := hl
      have hc := h.cell hk hb (i := off) (v := l.getD off (.tuple #[])) (by simp [Ct.cells, hp])
      simp [loadVar, ht.run_isAgg, hag, hc]
  | ints k l =>
    simp only [ldAt] at hl
    cases hag : i.agg with
    | true => simp [hag] at hl
    | false =>
      simp only [hag, Bool.false_eq_true, if_false, Option.some.injEq, Prod.mk.injEq] at hl
      obtain ⟨rfl, rfl⟩ := hl
      have hc := h.cell hk hb (i := off) (v := .int k (l.getD off 0)) (by simp [Ct.cells, hp])
      simp [loadVar, ht.run_isAgg, hag, hc]
theorem run_result (hty : TysOk P ty) (h : RepB V β w0 N e m a w) {args : List Value} {x : ResultVar} {r : RV} (hV : ∀ b, V b → w0.heap.size ≤ b ∨ ∃ u ∈ args, liveBlock u = some b) (hr : rvOk ty e m x r) :
    ∃ v, ((match x with | .tmp t => pure (a.tmps.getD t undef) | .cell c t => do loadVar t (← asAddr (a.tmps.getD c undef)) : Sem Value)).run P w = .ok v w ∧ RepR w0 w args r v ∧
      (r.isFresh = true → ownB v = none ∨ ∃ b key, ownB v = some b ∧ β key = some b ∧ (m key).isSome = true ∧ rKeys e [x] [r] = [key]) := by
  have hslot : ∀ t av, e t = some av → ∃ v, a.tmps.getD t undef = v ∧ RepA V β m w av v := fun t av he => by
    obtain ⟨v, hv, hrep⟩ := h.slots t av he
    exact ⟨v, by simp [hv], hrep⟩
  have hB : ∀ key b, (m key).isSome = true → β key = some b → w0.heap.size ≤ b ∧ ∃ c fr arr T rest, m key = some (c, fr) ∧ w.heap[b]? = some (.cells arr T (0, 0)) ∧ arr.toList = c.cells ++ rest := fun key b hs hb => by
    obtain ⟨⟨c, fr⟩, hc⟩ := Option.isSome_iff_exists.1 hs
    obtain ⟨_, h1 | ⟨b', arr, T, rest, h1, h2, h3, h4⟩⟩ := h.mem key c fr hc
    · rw [hb] at h1; exact absurd h1.1 (by simp)
    · rw [hb] at h1; cases h1; exact ⟨h2, c, fr, arr, T, rest, hc, h3, h4⟩
  cases x with
  | tmp t =>
    cases r with
    | v x =>
      simp only [rvOk] at hr
      split at hr
      · rename_i y he
        subst hr
        obtain ⟨v, hv, hrep⟩ := hslot t _ he
        exact ⟨v, by simp [hv], hrep, fun hh => by cases hh⟩
      · exact hr.elim
    | cells n l =>
      simp only [rvOk] at hr
      split at hr
      · rename_i key n' he
        obtain ⟨v, hv, c, fr, cap, b, hk, hb, hc1, hc2, rfl⟩ := hslot t _ he
        rw [hk] at hr
        split at hr
        · rename_i l' fr' hk'
          cases hk'
          obtain ⟨rfl, rfl⟩ := hr
          obtain ⟨hge, c', fr'', arr, T, rest, hc', hh, harr⟩ := hB key b (by simp [hk]) hb
          rw [hk] at hc'; cases hc'
          exact ⟨_, by simp [hv], ⟨b, cap, arr, T, rest, rfl, hc1, hc2, hge, hh, harr, (h.mem key _ _ hk).1⟩, fun _ => .inr ⟨b, key, rfl, hb, by simp [hk], by simp [rKeys, he]⟩⟩
        · exact hr.elim
      · exact hr.elim
    | fresh k l =>
      simp only [rvOk] at hr
      split at hr
      · rename_i key he
        obtain ⟨v, hv, c, fr, cap, hk, hc2, hc1, h4⟩ := hslot t _ he
        rw [hk] at hr
        split at hr
        · rename_i k' l' fr' hk'
          cases hk'
          obtain ⟨rfl, rfl⟩ := hr
          rcases h4 with ⟨hb, h0, rfl⟩ | ⟨b, hb, rfl⟩
          · exact ⟨.slice none 0 0, by simp [hv], .inl ⟨rfl, by simpa [Ct.len] using h0⟩, fun hh => .inl rfl⟩
          · obtain ⟨hge, c', fr'', arr, T, rest, hc', hh, harr⟩ := hB key b (by simp [hk]) hb
            rw [hk] at hc'; cases hc'
            exact ⟨.slice (some ⟨b, 0, none⟩) l'.length cap, by rw [← show (Ct.ints k' l').len = l'.length from rfl]; simp [hv], .inr ⟨b, cap, arr, T, rest, rfl, hc1, ⟨hc2.1, by have := hc2.2 b hb; unfold bsz at this; rw [hh] at this; simp only at this; omega⟩, hge, hh, harr⟩, fun _ => .inr ⟨b, key, rfl, hb, by simp [hk], by simp [rKeys, he]⟩⟩
        · exact hr.elim
      · rename_i key lo n he
        obtain ⟨v, hv, ⟨c, fr, hk, hle⟩, A, cap, rfl, hc1, hc2, h4⟩ := hslot t _ he
        rw [hk] at hr
        split at hr
        · rename_i k' l' fr' hk'
          cases hk'
          obtain ⟨rfl, rfl, rfl⟩ := hr
          have hlen : (l'.take n).length = n := by simp [Ct.len] at hle; simp; omega
          rcases h4 (.inr rfl) with ⟨hb, rfl, rfl, rfl⟩ | ⟨b, hb, rfl⟩
          · exact ⟨.slice none 0 0, by simp [hv], .inl ⟨rfl, by simp⟩, fun hh => .inl rfl⟩
          · obtain ⟨hge, c', fr'', arr, T, rest, hc', hh, harr⟩ := hB key b (by simp [hk]) hb
            rw [hk] at hc'; cases hc'
            refine ⟨.slice (some ⟨b, 0, none⟩) n cap, by simp [hv], .inr ⟨b, cap, arr, T, (l'.drop n).map (Value.int k') ++ rest, by rw [hlen], by rw [hlen]; exact hc1, ⟨hc2.1, by have := hc2.2 b hb; unfold bsz at this; rw [hh] at this; simp only at this; omega⟩, hge, hh, ?_⟩, fun _ => .inr ⟨b, key, rfl, hb, by simp [hk], by simp [rKeys, he]⟩⟩
            rw [harr, ← List.append_assoc, ← List.map_append, List.take_append_drop]
            rfl
        · exact hr.elim
      · rename_i he
        subst hr
        obtain ⟨v, hv, hrep⟩ := hslot t _ he
        have : v = .slice none 0 0 := hrep
        subst this
        exact ⟨_, by simp [hv], .inl ⟨rfl, rfl⟩, fun hh => .inl rfl⟩
      · exact hr.elim
    | view k l =>
      simp only [rvOk] at hr
      have nofresh : ∀ (k l) (v : Value), RV.view k l = .fresh k l → False := fun k l v hh => by cases hh
      split at hr
      · rename_i k' l' he
        obtain ⟨rfl, rfl⟩ := hr
        obtain ⟨v, hv, A, cap, rfl, hc1, hc2, h4⟩ := hslot t _ he
        refine ⟨_, by simp [hv], ⟨⟨A, cap, rfl, hc1, hc2, fun hl => by obtain ⟨ad, e1, _, hc⟩ := h4 hl; exact ⟨ad, e1, hc⟩⟩, fun b hb => ?_⟩, fun hh => by cases hh⟩
        have hl : l' ≠ [] := by
          intro h0; subst h0
          unfold liveBlock at hb
          split at hb
          · rename_i hh; cases hh; simp at hb
          · cases hb
        obtain ⟨ad, rfl, hap, _⟩ := h4 hl
        simp only [liveBlock, if_pos (List.length_pos_iff.2 hl), Option.some.injEq] at hb
        subst hb
        exact hV _ hap.1
      · rename_i key he
        obtain ⟨v, hv, c, fr, cap, hk, hc2, hc1, h4⟩ := hslot t _ he
        have hrd := dvOf_ok h (av := .ow key) (v := v) (dv := .sl k l) ⟨c, fr, cap, hk, hc2, hc1, h4⟩ (by
          rw [hk] at hr
          split at hr
          · rename_i k' l' fr' hk'; cases hk'; obtain ⟨rfl, rfl⟩ := hr; simp [dvOf, hk]
          · exact hr.elim)
        refine ⟨v, by simp [hv], ⟨hrd, fun b hb => ?_⟩, fun hh => by cases hh⟩
        rcases h4 with ⟨_, _, rfl⟩ | ⟨b', hb', rfl⟩
        · cases hb
        · simp only [liveBlock] at hb
          split at hb
          · have hbb : b' = b := by simpa using hb
            subst hbb
            exact .inl (hB key b' (by simp [hk]) hb').1
          · cases hb
      · rename_i key lo n he
        obtain ⟨v, hv, ⟨c, fr, hk, hle⟩, A, cap, rfl, hc1, hc2, h4⟩ := hslot t _ he
        have hrd := dvOf_ok h (av := .al key lo n) (v := .slice A n cap) (dv := .sl k l) ⟨⟨c, fr, hk, hle⟩, A, cap, rfl, hc1, hc2, h4⟩ (by
          rw [hk] at hr
          split at hr
          · rename_i k' l' fr' hk'; cases hk'; obtain ⟨rfl, rfl⟩ := hr; simp [dvOf, hk]
          · exact hr.elim)
        refine ⟨_, by simp [hv], ⟨hrd, fun b hb => ?_⟩, fun hh => by cases hh⟩
        have hn : 0 < n := by
          unfold liveBlock at hb
          split at hb
          · rename_i hh; cases hh
            split at hb
            · assumption
            · cases hb
          · cases hb
        rcases h4 (.inl hn) with ⟨_, _, h0, _⟩ | ⟨b', hb', rfl⟩
        · omega
        · have : b' = b := by simpa [liveBlock, hn] using hb
          subst this
          exact .inl (hB key b' (by simp [hk]) hb').1
      · rename_i he
        subst hr
        obtain ⟨v, hv, hrep⟩ := hslot t _ he
        have : v = .slice none 0 0 := hrep
        subst this
        exact ⟨_, by simp [hv], ⟨⟨none, 0, rfl, by simp, by simp, fun h => absurd rfl h⟩, fun b hb => by cases hb⟩, fun hh => by cases hh⟩
      · exact hr.elim
  | cell t u =>
    cases r with
    | v x =>
      simp only [rvOk] at hr
      split at hr
      · rename_i key off i he hi
        obtain ⟨v, hv, h0, b, hb, rfl⟩ := hslot t _ he
        split at hr
        · rename_i c fr hk
          split at hr
          · rename_i p y hl
            obtain ⟨hp, rfl⟩ := hr
            have hT := hty u i hi
            refine ⟨_, ?_, rfl, fun hh => by cases hh⟩
            have hq := load_ref h hT hk hb hl hp
            simp [hv, asAddr, hq]
          · exact hr.elim
        · exact hr.elim
      · exact hr.elim
    | fresh k l => exact hr.elim
    | view k l => exact hr.elim
    | cells n l => exact hr.elim
end Go.AM
