/- Part AmS7 of the proof: own text. -/
import Derived.Test.YtknejocjkjpfmaaAmS6
set_option linter.all false
namespace Go.AM
open Go.RowKit (Below)
variable {P : Program} {V : Nat → Prop} {β : Nat → Option Nat} {w0 w w' : World} {N : Nat} {e : Env} {m : Mem} {a : Act}
variable {ty : Ty} {Γ : Gam} {d : Option Tmp} {tt : TypeId} {pos : String} {after : Array Edge} {g : Option (Nat × Bool)}

/-! ### A store -/
theorem stAt_ok {c c' : Ct} {off : Nat} {vs : List Value} {p : Prop} (h : stAt c off vs = some (p, c')) (hp : p) (ho : okCells c.cells = true) (hv : okCells vs = true) :
    off + vs.length ≤ c.cells.length ∧ c'.len = c.len ∧ okCells c'.cells = true ∧ c'.cells = c.cells.take off ++ vs ++ c.cells.drop (off + vs.length) := by
  have hok : ∀ (l : List Value), okCells l = true → okCells (l.take off ++ vs ++ l.drop (off + vs.length)) = true := fun l hl => okCells_of fun v hm => by
    rcases List.mem_append.1 hm with hm | hm
    · rcases List.mem_append.1 hm with hm | hm
      · exact okCells_mem hl v (List.mem_of_mem_take hm)
      · exact okCells_mem hv v hm
    · exact okCells_mem hl v (List.mem_of_mem_drop hm)
  cases c with
  | vals l =>
    simp only [stAt, Option.some.injEq, Prod.mk.injEq] at h
    obtain ⟨rfl, rfl⟩ := h
    have he := setL_eq vs off l hp
    exact ⟨hp, by simp [Ct.len, length_setL], by simp only [Ct.cells, he]; exact hok l ho, he⟩
  | ints k l =>
    simp only [stAt] at h
    split at h
    · rename_i k' n
      split at h
      · rename_i hk
        subst hk
        simp only [Option.some.injEq, Prod.mk.injEq] at h
        obtain ⟨rfl, rfl⟩ := h
        have he : (l.set off n).map (Value.int k') = (l.map (Value.int k')).take off ++ [.int k' n] ++ (l.map (Value.int k')).drop (off + [Value.int k' n].length) := by
          rw [List.map_set]
          have := setL_eq [.int k' n] off (l.map (Value.int k')) (by simp; omega)
          simpa [setL] using this
        refine ⟨by simp [Ct.cells]; omega, by simp [Ct.len], okCells_ints _ _, he⟩
      · cases h
    · cases h
theorem store_ok (h : RepB V β w0 N e m a w) (hty : TysOk P ty) {t : TypeId} {x y : Operand} {key : Nat} {p : Prop} {c' : Ct} (hs : aStore ty ⟨e, m⟩ t x y = some (key, p, c')) (hp : p) :
    ∃ w', (execOp a.eval ⟨d, .store t x y, tt, pos, after, g⟩).run P w = .ok .skip w' ∧ RepB V β w0 N e (fun k => if k = key then some (c', false) else m k) a w' := by
  unfold aStore at hs
  split at hs
  · rename_i key' off v hx hy
    split at hs
    · rename_i c hk
      split at hs
      · rename_i hc
        obtain ⟨⟨p', c''⟩, h1, h2⟩ := Option.map_eq_some_iff.1 hs
        simp only [Prod.mk.injEq] at h2
        obtain ⟨rfl, rfl, rfl⟩ := h2
        obtain ⟨c1, fr, b, hk1, hb, hv⟩ := opd_ref h hx
        have hk' : m key' = some (c, false) := hk
        rw [hk'] at hk1; cases hk1
        have hyv : a.eval y = v := opd_v h (by unfold valOf at hy; split at hy <;> simp_all)
        obtain ⟨ho, hbad | ⟨b', arr, T, rest, hb', hB, hh, harr⟩⟩ := h.mem key' c false hk'
        · rw [hb] at hbad; exact absurd hbad.1 (by simp)
        · rw [hb] at hb'; cases hb'
          obtain ⟨hfit, hlen, hok, hcs⟩ := stAt_ok h1 hp ho hc.1
          have hsz : arr.size = c.cells.length + rest.length := by rw [← Array.length_toList, harr, List.length_append]
          have hst := run_storeCells_at P b off T (vcells v) 0 arr w hh (by omega) (fun u hu => okCells_mem hc.1 u hu)
          refine ⟨w.setRow b (arr.toList.take (off + 0) ++ vcells v ++ arr.toList.drop (off + 0 + (vcells v).length)).toArray, ?_, h.store hk' hb hB hh hlen hok (rest := rest) ?_ (by simp; omega)⟩
          · obtain ⟨i, hi, hi2⟩ := Option.map_eq_some_iff.1 hc.2
            have hsize : v.cells.size = i.size := by rw [hi2, ← vcells_cells, Array.length_toList]
            simp [execOp, Instr.storeAt, hv, Instr.sureAddr, hyv, storeVar, (hty t i hi).run_size, hsize, vcells_cells]
            rw [hst]
            simp
          · simp only [Nat.add_zero, harr, hcs]
            rw [List.take_append_of_le_length (by omega), List.drop_append_of_le_length (by omega)]
            simp
      · cases hs
    · cases hs
  · cases hs

/-! ### Calls -/
def RepD (w : World) : DV → Value → Prop
  | .v x, v => v = x
  | .sl k l, v => ∃ A cap, v = .slice A l.length cap ∧ l.length ≤ cap ∧ cap ≤ maxLen ∧ (l ≠ [] → ∃ ad : Addr, A = some ad ∧ ∀ i, i < l.length → w.cell? (ad.add i) = some (.int k (l.getD i 0)))
def RepDs (w : World) : List DV → List Value → Prop
  | [], [] => True
  | d :: ds, v :: vs => RepD w d v ∧ RepDs w ds vs
  | _, _ => False
/-- The block of a slice that is not empty. -/
def liveBlock : Value → Option Nat
  | .slice (some ad) n _ => if 0 < n then some ad.block else none
  | _ => none
def RepR (w w' : World) (vs : List Value) : RV → Value → Prop
  | .v x, v => v = x
  | .fresh k l, v => (v = .slice none 0 0 ∧ l = []) ∨ ∃ b cap arr T rest, v = .slice (some ⟨b, 0, none⟩) l.length cap ∧ l.length ≤ cap ∧ (cap ≤ maxLen ∧ cap ≤ arr.size) ∧ w.heap.size ≤ b ∧ w'.heap[b]? = some (.cells arr T (0, 0)) ∧ arr.toList = l.map (.int k) ++ rest
  | .cells n l, v => ∃ b cap arr T rest, v = .slice (some ⟨b, 0, none⟩) n cap ∧ n ≤ cap ∧ cap ≤ maxLen ∧ w.heap.size ≤ b ∧ w'.heap[b]? = some (.cells arr T (0, 0)) ∧ arr.toList = l ++ rest ∧ okCells l = true
  | .view k l, v => RepD w' (.sl k l) v ∧ (∀ b, liveBlock v = some b → w.heap.size ≤ b ∨ ∃ u ∈ vs, liveBlock u = some b)
def RepRs (w w' : World) (vs : List Value) : List RV → List Value → Prop
  | [], [] => True
  | r :: rs, u :: us => RepR w w' vs r u ∧ RepRs w w' vs rs us
  | _, _ => False
def ownB : Value → Option Nat
  | .slice (some ad) _ _ => some ad.block
  | _ => none
def freshBs : List RV → List Value → List Nat
  | .fresh _ _ :: rs, u :: us => (ownB u).toList ++ freshBs rs us
  | .cells _ _ :: rs, u :: us => (ownB u).toList ++ freshBs rs us
  | _ :: rs, _ :: us => freshBs rs us
  | _, _ => []
def RepRes (w w' : World) (vs : List Value) : Res → Value → Prop
  | .one r, v => RepR w w' vs r v
  | .many rs, v => ∃ us : List Value, v = .tuple us.toArray ∧ RepRs w w' vs rs us ∧ (freshBs rs us).Nodup
def plainRes : Res → Prop
  | .one (.v _) => True
  | .many rs => ∀ r ∈ rs, ∃ x, r = .v x
  | _ => False
/-- A function does as its contract says. -/
def Sound (P : Program) (f : Nat) : Fk → CSpec → Prop
  | .body, spec => ∃ fn, P.funcs[f]? = some fn ∧ (fn.name == "runtime.NumGoroutine") = false ∧ fn.body.isNone = false ∧
      ∀ ds p r, spec ds = some (p, r) → p → ∀ w vs, RepDs w ds vs → Calls P f vs.toArray w (fun e w' => ∃ v, e = .returned v ∧ Below w.heap.size w w' ∧ RepRes w w' vs r v)
  | .ext, spec => ∀ ds p r, spec ds = some (p, r) → p → ∀ w vs, RepDs w ds vs → ∃ v, (callFunc f vs.toArray).run P w = .ok (.value v) w ∧ RepRes w w vs r v ∧ plainRes r
def GamOk (P : Program) (Γ : Gam) : Prop := ∀ f fk spec, lk Γ f = some (fk, spec) → Sound P f fk spec

theorem intsOf_cells {c : Ct} {k : IntKind} {l : List Int} (h : c.intsOf k = some l) : c.cells = l.map (.int k) := by
  cases c with
  | ints k' l' => simp only [Ct.intsOf] at h; split at h <;> simp_all [Ct.cells]
  | vals vs => exact toInts_map h
theorem dvOf_ok (h : RepB V β w0 N e m a w) {av : AV} {v : Value} {dv : DV} (hv : RepA V β m w av v) (hd : dvOf ⟨e, m⟩ av = some dv) : RepD w dv v := by
  cases av with
  | v x => simp only [dvOf] at hd; split at hd <;> cases hd; exact hv
  | pt x => cases hd
  | rd k l =>
    cases hd
    obtain ⟨A, cap, h1, h2, h3, h4⟩ := hv
    exact ⟨A, cap, h1, h2, h3, fun hl => by obtain ⟨ad, e1, _, hc⟩ := h4 hl; exact ⟨ad, e1, hc⟩⟩
  | ref key off => cases hd
  | ows key n => cases hd
  | ow key =>
    obtain ⟨c, fr, cap, hk, h2, h3, h4⟩ := hv
    simp only [dvOf, hk, Option.bind_some] at hd
    cases c with
    | vals l => cases hd
    | ints k l =>
      cases hd
      rcases h4 with ⟨_, h0, rfl⟩ | ⟨b, hb, rfl⟩
      · have : l = [] := by simpa [Ct.len] using h0
        subst this
        exact ⟨none, 0, rfl, by simp, by simp, fun h => absurd rfl h⟩
      · exact ⟨_, cap, rfl, h3, h2.1, fun _ => ⟨_, rfl, fun i hi => by rw [Addr.add_plain]; exact h.cell hk hb (by simp [Ct.cells, hi])⟩⟩
  | al key lo n =>
    obtain ⟨⟨c, fr, hk, hle⟩, A, cap, rfl, h2, h3, h4⟩ := hv
    have fin : ∀ (k : IntKind) (l : List Int), c.cells = l.map (Value.int k) → dv = .sl k ((l.drop lo).take n) → RepD w dv (.slice A n cap) := by
      intro k l hcells hdv
      subst hdv
      have hlen : c.len = l.length := by rw [← Ct.length_cells, hcells]; simp
      have hl : ((l.drop lo).take n).length = n := by simp; omega
      refine ⟨A, cap, by rw [hl], by rw [hl]; exact h2, h3.1, fun hne => ?_⟩
      have hn : 0 < n := by rw [← hl]; exact List.length_pos_iff.2 hne
      rcases h4 (.inl hn) with ⟨_, _, h0, _⟩ | ⟨b, hb, rfl⟩
      · omega
      · refine ⟨_, rfl, fun i hi => ?_⟩
        rw [hl] at hi
        rw [Addr.add_plain]
        refine h.cell hk hb ?_
        rw [hcells]
        simp only [List.getElem?_map, List.getD_eq_getElem?_getD, List.getElem?_take, List.getElem?_drop, if_pos hi]
        rw [List.getElem?_eq_getElem (show lo + i < l.length by omega)]
        simp
    simp only [dvOf, hk, Option.bind_some] at hd
    cases c with
    | ints k l => cases hd; exact fin k l rfl rfl
    | vals l =>
      obtain ⟨ns, h5, h6⟩ := Option.map_eq_some_iff.1 hd
      exact fin .u64 ns (toInts_map h5) h6.symm
  | tup l => cases hd
  | dead => cases hd
theorem dvs_ok (h : RepB V β w0 N e m a w) : ∀ {xs : List Operand} {ds : List DV}, dvs ⟨e, m⟩ xs = some ds → RepDs w ds (xs.map a.eval)
  | [], ds, hd => by simp only [dvs, Option.some.injEq] at hd; subst hd; trivial
  | x :: r, ds, hd => by
    simp only [dvs] at hd
    split at hd
    · rename_i dd ds' h1 h2
      cases hd
      exact ⟨dvOf_ok h (h.opd x) h1, dvs_ok h h2⟩
    · cases hd
end Go.AM
