/- Part AmS3 of the proof: own text. -/
import Derived.Test.YtknejocjkjpfmaaAmS2
import Derived.Laws.Unary
import Derived.Laws.Concat
import Derived.Laws.Strings
set_option linter.all false
namespace Go.AM
open Go.RowKit (Below)
variable {P : Program} {V : Nat → Prop} {β : Nat → Option Nat} {w0 w w' : World} {N : Nat} {e : Env} {m : Mem} {a : Act}
variable {ty : Ty} {Γ : Gam} {d : Option Tmp} {tt : TypeId} {pos : String} {after : Array Edge} {g : Option (Nat × Bool)}

theorem RepB.cell (h : RepB V β w0 N e m a w) {key : Nat} {c : Ct} {fr : Bool} {b : Nat} (hk : m key = some (c, fr)) (hb : β key = some b) {i : Nat} {v : Value} (hv : c.cells[i]? = some v) :
    w.cell? ⟨b, i, none⟩ = some v := by
  obtain ⟨_, h1 | ⟨b', arr, T, rest, h1, _, h3, h4⟩⟩ := h.mem key c fr hk
  · rw [hb] at h1; exact absurd h1.1 (by simp)
  · rw [hb] at h1; cases h1
    rw [cell_of_row w b i arr T (0, 0) h3]
    have : arr.toList[i]? = some v := by
      rw [h4, List.getElem?_append_left (List.getElem?_eq_some_iff.1 hv).1]; exact hv
    simpa using this
theorem opd_ref (h : RepB V β w0 N e m a w) {x : Operand} {key off : Nat} (hx : opd ⟨e, m⟩ x = .ref key off) :
    ∃ c fr b, m key = some (c, fr) ∧ β key = some b ∧ a.eval x = .pointer (some ⟨b, off, none⟩) := by
  have := h.opd x
  rw [hx] at this
  obtain ⟨h0, b, h1, h2⟩ := this
  obtain ⟨⟨c, fr⟩, hc⟩ := Option.isSome_iff_exists.1 h0
  exact ⟨c, fr, b, hc, h1, h2⟩
theorem RepB.bsz (h : RepB V β w0 N e m a w) {key b : Nat} {c : Ct} {fr : Bool} (hk : m key = some (c, fr)) (hb : β key = some b) : c.len ≤ AM.bsz w b := by
  obtain ⟨_, h1 | ⟨b', arr, T, rest, h1, _, h3, h4⟩⟩ := h.mem key c fr hk
  · rw [hb] at h1; exact absurd h1.1 (by simp)
  · rw [hb] at h1; cases h1
    unfold AM.bsz
    rw [h3]
    simp only
    rw [← Array.length_toList, h4, List.length_append, Ct.length_cells]
    omega
theorem opd_ow (h : RepB V β w0 N e m a w) {x : Operand} {key : Nat} (hx : opd ⟨e, m⟩ x = .ow key) :
    ∃ c fr cap, m key = some (c, fr) ∧ CapOk w β key 0 cap ∧ c.len ≤ cap ∧ ((β key = none ∧ c.len = 0 ∧ a.eval x = .slice none 0 0) ∨ ∃ b, β key = some b ∧ a.eval x = .slice (some ⟨b, 0, none⟩) c.len cap) := by
  have := h.opd x
  rw [hx] at this
  exact this
theorem opd_al (h : RepB V β w0 N e m a w) {x : Operand} {key lo n : Nat} (hx : opd ⟨e, m⟩ x = .al key lo n) :
    (∃ c fr, m key = some (c, fr) ∧ lo + n ≤ c.len) ∧ ∃ A cap, a.eval x = .slice A n cap ∧ n ≤ cap ∧ CapOk w β key lo cap ∧ (0 < n ∨ lo = 0 → (β key = none ∧ A = none ∧ n = 0 ∧ cap = 0) ∨ ∃ b, β key = some b ∧ A = some ⟨b, lo, none⟩) := by
  have := h.opd x
  rw [hx] at this
  exact this
theorem opd_rd (h : RepB V β w0 N e m a w) {x : Operand} {k : IntKind} {l : List Int} (hx : opd ⟨e, m⟩ x = .rd k l) :
    ∃ A cap, a.eval x = .slice A l.length cap ∧ l.length ≤ cap ∧ cap ≤ maxLen ∧ (l ≠ [] → ∃ ad : Addr, A = some ad ∧ (V ad.block ∧ Apart β m ad.block) ∧ ∀ i, i < l.length → w.cell? (ad.add i) = some (.int k (l.getD i 0))) := by
  have := h.opd x
  rw [hx] at this
  exact this

theorem yes_load_ref (h : RepB V β w0 N e m a w) {t : TypeId} {i : TI} (ht : TyOk P t i) {x : Operand} {key off : Nat} (hx : opd ⟨e, m⟩ x = .ref key off) {c : Ct} {fr : Bool} (hk : m key = some (c, fr))
    {p : Prop} {v : Value} (hl : ldAt c off i.size i.agg = some (p, v)) (hp : p) : Yes P V ⟨d, .load t x, tt, pos, after, g⟩ w0 N e m a w (.v v) := by
  obtain ⟨c', fr', b, hk', hb, hv⟩ := opd_ref h hx
  rw [hk] at hk'; cases hk'
  refine .same h (v := v) ?_ rfl
  cases c with
  | vals l =>
    simp only [ldAt] at hl
    cases hag : i.agg with
    | true =>
      simp only [hag, if_true, Option.some.injEq, Prod.mk.injEq] at hl
      obtain ⟨rfl, rfl⟩ := hl
      have hlen : ((l.drop off).take i.size).length = i.size := by simp; omega
      have hr := run_loadCells_list (P := P) w ⟨b, off, none⟩ ((l.drop off).take i.size) (fun j u hu => by
        rw [Addr.add_plain]
        refine h.cell hk hb ?_
        rw [List.getElem?_take] at hu
        split at hu
        · simpa [Ct.cells] using hu
        · cases hu)
      rw [hlen] at hr
      simp [execOp, Instr.loadAt, hv, Instr.sureAddr, loadVar, ht.run_isAgg, hag, ht.run_size, hr]
    | false =>
      simp only [hag, Bool.false_eq_true, if_false, Option.some.injEq, Prod.mk.injEq] at hl
      obtain ⟨rfl, rfl⟩ := hl
      have hc := h.cell hk hb (i := off) (v := l.getD off (.tuple #[])) (by simp [Ct.cells, hp])
      simp [execOp, Instr.loadAt, hv, Instr.sureAddr, loadVar, ht.run_isAgg, hag, hc]
  | ints k l =>
    simp only [ldAt] at hl
    cases hag : i.agg with
    | true => simp [hag] at hl
    | false =>
      simp only [hag, Bool.false_eq_true, if_false, Option.some.injEq, Prod.mk.injEq] at hl
      obtain ⟨rfl, rfl⟩ := hl
      have hc := h.cell hk hb (i := off) (v := .int k (l.getD off 0)) (by simp [Ct.cells, hp])
      simp [execOp, Instr.loadAt, hv, Instr.sureAddr, loadVar, ht.run_isAgg, hag, hc]
theorem yes_load_pt (h : RepB V β w0 N e m a w) {t : TypeId} {i : TI} (ht : TyOk P t i) {x : Operand} {v : Value} (hx : opd ⟨e, m⟩ x = .pt v) (hag : i.agg = false) :
    Yes P V ⟨d, .load t x, tt, pos, after, g⟩ w0 N e m a w (.v v) := by
  have := h.opd x
  rw [hx] at this
  obtain ⟨ad, h1, h2, _⟩ := this
  refine .same h (v := v) ?_ rfl
  simp [execOp, Instr.loadAt, h1, Instr.sureAddr, loadVar, ht.run_isAgg, hag, h2]

theorem yes_fieldAddr (h : RepB V β w0 N e m a w) {t : TypeId} {i : TI} (ht : TyOk P t i) {fs : List (Nat × TypeId)} (hi : i.kind = .struct fs) {x : Operand} {key off : Nat} (hx : opd ⟨e, m⟩ x = .ref key off) {f o : Nat} {ft : TypeId} (hf : fs[f]? = some (o, ft)) :
    Yes P V ⟨d, .fieldAddr t x f, tt, pos, after, g⟩ w0 N e m a w (.ref key (off + o)) := by
  obtain ⟨c, fr, b, hk, hb, hv⟩ := opd_ref h hx
  have hkd := ht.kind
  rw [hi] at hkd
  obtain ⟨_, fields, hu, hmap, hsz⟩ := hkd
  rw [← hmap, List.getElem?_map] at hf
  obtain ⟨fd, hfd, he⟩ := Option.map_eq_some_iff.1 hf
  simp only [Prod.mk.injEq] at he
  obtain ⟨rfl, rfl⟩ := he
  have hfa : fields[f]? = some fd := by simpa using hfd
  obtain ⟨q, hq, hq0⟩ := hsz fd (Array.mem_of_getElem? hfa)
  refine .same h (v := .pointer (some ⟨b, off + fd.offset, none⟩)) ?_ ⟨by simp [hk], b, hb, rfl⟩
  simp [execOp, Instr.fieldAt, run_underlying hu, hfa, hv, Instr.sureAddr, fieldPlace, sizeOf, typeInfo, hq, hq0, Addr.add_plain]

theorem run_part {t : TypeId} {i : TI} (ht : TyOk P t i) {cs : Array Value} {off : Nat} {p : Prop} {v : Value} (hl : ldAt (.vals cs.toList) off i.size i.agg = some (p, v)) (hp : p) (w : World) :
    (part t cs off).run P w = .ok v w := by
  simp only [ldAt] at hl
  cases hag : i.agg with
  | true =>
    simp only [hag, if_true, Option.some.injEq, Prod.mk.injEq] at hl
    obtain ⟨rfl, rfl⟩ := hl
    simp only [part, ht.run_isAgg, hag, Sem.run_bind, Result.andThen_ok, if_true, ht.run_size, Sem.run_pure, Result.ok.injEq, and_true]
    simp only [Value.agg.injEq]
    apply Array.ext'
    simp only [Array.toList_extract, List.extract_eq_drop_take, Nat.add_sub_cancel_left]
  | false =>
    simp only [hag, Bool.false_eq_true, if_false, Option.some.injEq, Prod.mk.injEq] at hl
    obtain ⟨rfl, rfl⟩ := hl
    have : cs[off]? = some (cs.toList.getD off (.tuple #[])) := by
      have : off < cs.size := by simpa using hp
      simp [this]
    simp only [part, ht.run_isAgg, hag, Sem.run_bind, Result.andThen_ok, Bool.false_eq_true, if_false, this, Sem.run_pure]
theorem yes_field (h : RepB V β w0 N e m a w) {t : TypeId} {i : TI} (ht : TyOk P t i) {fs : List (Nat × TypeId)} (hi : i.kind = .struct fs) {x : Operand} {cs : Array Value} (hx : opd ⟨e, m⟩ x = .v (.agg cs)) {f o : Nat} {ft : TypeId} (hf : fs[f]? = some (o, ft))
    {fi : TI} (hft : TyOk P ft fi) {p : Prop} {v : Value} (hl : ldAt (.vals cs.toList) o fi.size fi.agg = some (p, v)) (hp : p) :
    Yes P V ⟨d, .field t x f, tt, pos, after, g⟩ w0 N e m a w (.v v) := by
  have hkd := ht.kind
  rw [hi] at hkd
  obtain ⟨_, fields, hu, hmap, hsz⟩ := hkd
  rw [← hmap, List.getElem?_map] at hf
  obtain ⟨fd, hfd, he⟩ := Option.map_eq_some_iff.1 hf
  simp only [Prod.mk.injEq] at he
  obtain ⟨rfl, rfl⟩ := he
  have hfa : fields[f]? = some fd := by simpa using hfd
  refine .same h (v := v) ?_ rfl
  simp [execOp, Instr.field, run_underlying hu, hfa, opd_v h hx, asAgg, run_part hft hl hp]
theorem opd_int (h : RepB V β w0 N e m a w) {x : Operand} {j : Int} (hx : intOf (opd ⟨e, m⟩ x) = some j) : ∃ k, a.eval x = .int k j := by
  unfold intOf at hx
  split at hx
  · rename_i k n hxx
    cases hx
    exact ⟨k, opd_v h hxx⟩
  · cases hx
theorem yes_index_agg (h : RepB V β w0 N e m a w) {t : TypeId} {i : TI} (ht : TyOk P t i) {n : Nat} {el : TypeId} (hi : i.kind = .arr n el) {x y : Operand} {cs : Array Value} (hx : opd ⟨e, m⟩ x = .v (.agg cs)) {j : Int} (hy : intOf (opd ⟨e, m⟩ y) = some j)
    {ei : TI} (hel : TyOk P el ei) {p : Prop} {v : Value} (hl : ldAt (.vals cs.toList) (j.toNat * ei.size) ei.size ei.agg = some (p, v)) (hj : 0 ≤ j ∧ j < n) (hp : p) :
    Yes P V ⟨d, .index t x y, tt, pos, after, g⟩ w0 N e m a w (.v v) := by
  have hkd := ht.kind
  rw [hi] at hkd
  obtain ⟨k, hk⟩ := opd_int h hy
  refine .same h (v := v) ?_ rfl
  simp [execOp, Instr.index, run_underlying hkd.1, opd_v h hx, hk, asIntOf, hj, hel.run_size, run_part hel hl hp]
theorem yes_index_str (h : RepB V β w0 N e m a w) {t : TypeId} {i : TI} (ht : TyOk P t i) (hi : i.kind = .str) {x y : Operand} {s : ByteArray} (hx : opd ⟨e, m⟩ x = .v (.string s)) {j : Int} (hy : intOf (opd ⟨e, m⟩ y) = some j) (hj : 0 ≤ j ∧ j < s.size) :
    Yes P V ⟨d, .index t x y, tt, pos, after, g⟩ w0 N e m a w (.v (.int .u8 (bt s j))) := by
  have hkd := ht.kind
  rw [hi] at hkd
  obtain ⟨k, hk⟩ := opd_int h hy
  refine .same h (v := .int .u8 (bt s j)) ?_ rfl
  have hlt : j.toNat < s.size := by omega
  have : s[j.toNat]? = some s[j.toNat] := by simp [hlt]
  have hb : bt s j = (s[j.toNat].toNat : Int) := by
    unfold bt
    have h2 : j.toNat < s.data.toList.length := by simpa using hlt
    rw [List.getD_eq_getElem?_getD, List.getElem?_eq_getElem h2]
    rfl
  simp [execOp, Instr.index, run_underlying hkd.1, opd_v h hx, hk, asIntOf, hj, this, hb]
theorem yes_indexAddr_arr (h : RepB V β w0 N e m a w) {t : TypeId} {i : TI} (ht : TyOk P t i) {n : Nat} {el : TypeId} (hi : i.kind = .arr n el) {x y : Operand} {key off : Nat} (hx : opd ⟨e, m⟩ x = .ref key off) {j : Int} (hy : intOf (opd ⟨e, m⟩ y) = some j)
    {ei : TI} (hel : TyOk P el ei) (hj : 0 ≤ j ∧ j < n) : Yes P V ⟨d, .indexAddr t x y, tt, pos, after, g⟩ w0 N e m a w (.ref key (off + j.toNat * ei.size)) := by
  have hkd := ht.kind
  rw [hi] at hkd
  obtain ⟨k, hk⟩ := opd_int h hy
  obtain ⟨c, fr, b, hk', hb, hv⟩ := opd_ref h hx
  refine .same h (v := .pointer (some ⟨b, off + j.toNat * ei.size, none⟩)) ?_ ⟨by simp [hk'], b, hb, rfl⟩
  simp [execOp, Instr.indexAt, run_underlying hkd.1, hv, hk, asIntOf, Instr.sureAddr, hj, hel.run_size, Addr.add_plain]
theorem yes_indexAddr_sl (h : RepB V β w0 N e m a w) {t : TypeId} {i : TI} (ht : TyOk P t i) {el : TypeId} (hi : i.kind = .slice el) {ei : TI} (hel : TyOk P el ei) (h1 : ei.size = 1) {x y : Operand} {ad : Addr} {n cap : Nat} (hx : a.eval x = .slice (some ad) n cap) {j : Int} (hy : intOf (opd ⟨e, m⟩ y) = some j)
    (hj : 0 ≤ j ∧ j < n) : (execOp a.eval ⟨d, .indexAddr t x y, tt, pos, after, g⟩).run P w = .ok (.value (.pointer (some (ad.add j.toNat)))) w := by
  have hkd := ht.kind
  rw [hi] at hkd
  obtain ⟨k, hk⟩ := opd_int h hy
  simp [execOp, Instr.indexAt, run_underlying hkd.1, hx, hk, asIntOf, hj, hel.run_size, h1]
theorem yes_indexAddr_ows (h : RepB V β w0 N e m a w) {t : TypeId} {i : TI} (ht : TyOk P t i) {el : TypeId} (hi : i.kind = .slice el) {ei : TI} (hel : TyOk P el ei) {x y : Operand} {key n : Nat} (hx : opd ⟨e, m⟩ x = .ows key n) {j : Int} (hy : intOf (opd ⟨e, m⟩ y) = some j)
    (hj : 0 ≤ j ∧ j < n) : Yes P V ⟨d, .indexAddr t x y, tt, pos, after, g⟩ w0 N e m a w (.ref key (j.toNat * ei.size)) := by
  have hkd := ht.kind
  rw [hi] at hkd
  obtain ⟨k, hk⟩ := opd_int h hy
  have hrep := h.opd x
  rw [hx] at hrep
  obtain ⟨c, fr, cap, b, h0, hb, h2, h3, hv⟩ := hrep
  refine .same h (v := .pointer (some ⟨b, j.toNat * ei.size, none⟩)) ?_ ⟨by simp [h0], b, hb, rfl⟩
  simp [execOp, Instr.indexAt, run_underlying hkd.1, hv, hk, asIntOf, hj, hel.run_size, Addr.add_plain]
theorem yes_indexAddr_rd (h : RepB V β w0 N e m a w) {t : TypeId} {i : TI} (ht : TyOk P t i) {el : TypeId} (hi : i.kind = .slice el) {ei : TI} (hel : TyOk P el ei) (h1 : ei.size = 1) {x y : Operand} {k : IntKind} {l : List Int} (hx : opd ⟨e, m⟩ x = .rd k l) {j : Int} (hy : intOf (opd ⟨e, m⟩ y) = some j)
    (hj : 0 ≤ j ∧ j < l.length) : Yes P V ⟨d, .indexAddr t x y, tt, pos, after, g⟩ w0 N e m a w (.pt (.int k (l.getD j.toNat 0))) := by
  obtain ⟨A, cap, hv, _, _, h4⟩ := opd_rd h hx
  obtain ⟨ad, rfl, hap, hc⟩ := h4 (by intro h0; subst h0; simp at hj; omega)
  have hadd : (ad.add j.toNat).block = ad.block := by unfold Addr.add; split <;> rfl
  exact .same h (yes_indexAddr_sl h ht hi hel h1 hv hy hj) ⟨_, rfl, hc _ (by omega), by rw [hadd]; exact hap.2⟩
theorem yes_indexAddr_ow (h : RepB V β w0 N e m a w) {t : TypeId} {i : TI} (ht : TyOk P t i) {el : TypeId} (hi : i.kind = .slice el) {ei : TI} (hel : TyOk P el ei) (h1 : ei.size = 1) {x y : Operand} {key : Nat} (hx : opd ⟨e, m⟩ x = .ow key) {c : Ct} {fr : Bool} (hkk : m key = some (c, fr)) {j : Int} (hy : intOf (opd ⟨e, m⟩ y) = some j)
    (hj : 0 ≤ j ∧ j < c.len) : Yes P V ⟨d, .indexAddr t x y, tt, pos, after, g⟩ w0 N e m a w (.ref key j.toNat) := by
  obtain ⟨c', fr', cap, hk', _, _, h4⟩ := opd_ow h hx
  rw [hkk] at hk'; cases hk'
  rcases h4 with ⟨_, h0, _⟩ | ⟨b, hb, hv⟩
  · omega
  · have := yes_indexAddr_sl (d := d) (tt := tt) (pos := pos) (after := after) (g := g) h ht hi hel h1 hv hy hj
    rw [Addr.add_plain, Nat.zero_add] at this
    exact .same h this ⟨by simp [hkk], b, hb, rfl⟩
theorem yes_indexAddr_al (h : RepB V β w0 N e m a w) {t : TypeId} {i : TI} (ht : TyOk P t i) {el : TypeId} (hi : i.kind = .slice el) {ei : TI} (hel : TyOk P el ei) (h1 : ei.size = 1) {x y : Operand} {key lo n : Nat} (hx : opd ⟨e, m⟩ x = .al key lo n) {j : Int} (hy : intOf (opd ⟨e, m⟩ y) = some j)
    (hj : 0 ≤ j ∧ j < n) : Yes P V ⟨d, .indexAddr t x y, tt, pos, after, g⟩ w0 N e m a w (.ref key (lo + j.toNat)) := by
  obtain ⟨hs, A, cap, hv, _, _, h4⟩ := opd_al h hx
  rcases h4 (.inl (by omega)) with ⟨_, _, h0, _⟩ | ⟨b, hb, rfl⟩
  · omega
  · have := yes_indexAddr_sl (d := d) (tt := tt) (pos := pos) (after := after) (g := g) h ht hi hel h1 hv hy hj
    rw [Addr.add_plain] at this
    obtain ⟨c, fr, h0, _⟩ := hs
    exact .same h this ⟨by simp [h0], b, hb, rfl⟩
theorem yes_extract (h : RepB V β w0 N e m a w) {x : Operand} {l : List AV} (hx : opd ⟨e, m⟩ x = .tup l) {i : Nat} {av : AV} (hi : l[i]? = some av) : Yes P V ⟨d, .extract x i, tt, pos, after, g⟩ w0 N e m a w av := by
  have := h.opd x
  rw [hx] at this
  obtain ⟨vs, hv, hl⟩ := this
  have key : ∀ (l : List AV) (vs : List Value) (i : Nat), RepL V β m w l vs → l[i]? = some av → ∃ v, vs[i]? = some v ∧ RepS V β m w av v := by
    intro l
    induction l with
    | nil => intro vs i _ hi; simp at hi
    | cons y ys ih =>
      intro vs i hl hi
      cases vs with
      | nil => exact hl.elim
      | cons u us =>
        cases i with
        | zero => simp at hi; subst hi; exact ⟨u, by simp, hl.1⟩
        | succ i => obtain ⟨v, h1, h2⟩ := ih us i hl.2 (by simpa using hi); exact ⟨v, by simpa using h1, h2⟩
  obtain ⟨v, h1, h2⟩ := key l vs i hl hi
  refine .same h (v := v) ?_ (RepA.of_S h2)
  simp [execOp, hv, Instr.extract, h1]
end Go.AM
