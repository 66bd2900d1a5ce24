/- Part AmSp3 of the proof: own text. -/
import Derived.Test.YtknejocjkjpfmaaAmSp2
set_option linter.all false
namespace Go.AM
open Go.RowKit (Below)
variable {P : Program} {V : Nat → Prop} {β : Nat → Option Nat} {w0 w w' : World} {N : Nat} {e : Env} {m : Mem} {a : Act}
variable {ty : Ty} {Γ : Gam} {d : Option Tmp} {tt : TypeId} {pos : String} {after : Array Edge} {g : Option (Nat × Bool)}
theorem Ext.trans {w1 w2 w3 : World} (h : Ext w1 w2) (h' : Ext w2 w3) : Ext w1 w3 :=
  ⟨h'.os.trans h.os, h'.tape.trans h.tape, h'.output.trans h.output, Nat.le_trans h.size h'.size, fun k hk => (h'.block k (Nat.lt_of_lt_of_le hk h.size)).trans (h.block k hk)⟩
theorem intSl_ok (hty : TysOk P ty) {t : TypeId} {kb : IntKind × Nat} (h : intSl ty t = some kb) : ∃ el ei q z, P.underlying t = some (.slice el) ∧ TyOk P el ei ∧ ei.kind = .int kb.1 ∧ P.info? el = some q ∧ q.size = 1 ∧ q.bytes = kb.2 ∧ q.zero = some z ∧ z.cells.toList = [.int kb.1 0] ∧ 1 ≤ kb.2 := by
  unfold intSl at h
  obtain ⟨i, hi, h⟩ := Option.bind_eq_some_iff.1 h
  split at h
  · rename_i el hk
    obtain ⟨ei, hei, h⟩ := Option.bind_eq_some_iff.1 h
    split at h
    · rename_i k hki
      split at h
      case isFalse => cases h
      rename_i hb1
      cases h
      have h1 := (hty _ _ hi).kind
      rw [hk] at h1
      have hel := hty _ _ hei
      have h2 := hel.kind
      rw [hki] at h2
      obtain ⟨q, h3, h4, h5, z, h6, h7⟩ := hel.info
      exact ⟨el, ei, q, z, h1.1, hel, hki, h3, by rw [h4, h2.2.2.2], h5, h6, by rw [h7, h2.2.2.1], hb1⟩
    · cases h
  · cases h
theorem run_app_op (w : World) {x y : Operand} {t : TypeId} {v : Value} {w' : World} (h : (Builtin.append_ #[t, t] tt #[a.eval x, a.eval y]).run P w = .ok v w') :
    (execOp a.eval ⟨d, .call ⟨.builtin .append, #[x, y], #[t, t]⟩, tt, pos, after, g⟩).run P w = .ok (.value v) w' := by
  simp [execOp, resolve, invoke, builtin, h, Result.andThen]
theorem run_copy_op (w : World) {x y : Operand} {t t' : TypeId} {v : Value} {w' : World} (h : (Builtin.copy_ #[t, t'] tt #[a.eval x, a.eval y]).run P w = .ok v w') :
    (execOp a.eval ⟨d, .call ⟨.builtin .copy, #[x, y], #[t, t']⟩, tt, pos, after, g⟩).run P w = .ok (.value v) w' := by
  simp [execOp, resolve, invoke, builtin, h, Result.andThen]
theorem lk_cons_fun {key : Nat} {c : Ct} {mem : List (Nat × Ct × Bool)} : lk ((key, c, false) :: mem) = fun k => if k = key then some (c, false) else lk mem k := by funext k; rfl
/-- Nothing is named yet by a key that is new: then nothing is forgotten either. -/
theorem RepB.regrowNew {env : List (Nat × AV)} (h : RepB V β w0 N (lk env) m a w) {key nb : Nat} {c' : Ct} {arr : Array Value} {T : TypeId} {rest : List Value} (hm : m key = none) (hbelow : Below w0.heap.size w0 w') (hx : Ext w w')
    (hnb : w'.heap[nb]? = some (.cells arr T (0, 0))) (harr : arr.toList = c'.cells ++ rest) (hok : okCells c'.cells = true) (hB : w.heap.size ≤ nb) :
    RepB V (addβ [(key, c', some nb)] β) w0 N (lk env) (fun k => if k = key then some (c', false) else m k) a w' := by
  rw [← adds_one key c' (some nb)]
  refine h.adds hx _ ?_ ?_ ?_
  · intro k x hx
    simp only [lk] at hx
    split at hx
    · rename_i hkk; subst hkk; exact hm
    · cases hx
  · intro k c1 bo hx
    simp only [lk] at hx
    split at hx
    · simp only [Option.some.injEq, Prod.mk.injEq] at hx
      obtain ⟨rfl, rfl⟩ := hx
      exact ⟨hok, .inr ⟨nb, arr, T, rest, rfl, hB, hnb, harr⟩⟩
    · cases hx
  · intro k k' c c' b hl hl'
    simp only [lk] at hl hl'
    split at hl
    · split at hl'
      · rename_i e1 e2; rw [e1, e2]
      · cases hl'
    · cases hl
theorem okCells_one {k : IntKind} {l : List Int} : ∀ u ∈ l.map (Value.int k), u.oneCell' = true := fun u hu => okCells_mem (okCells_ints k l) u (by simpa [Ct.cells] using hu)
theorem size_zc (z : Array Value) (n : Nat) : (Builtin.zeroCells z n).size = n * z.size := by simp [Builtin.zeroCells]
theorem RepB.kill {env : List (Nat × AV)} (h : RepB V β w0 N (lk env) m a w) (key : Nat) : RepB V β w0 N (lk (killE key env)) m a w :=
  ⟨h.fresh, h.below, h.size, h.defers, h.mem, h.inj, fun t av ht => by
    rw [lk_killE] at ht
    obtain ⟨av0, h1, rfl⟩ := Option.map_eq_some_iff.1 ht
    obtain ⟨v, hv, hr⟩ := h.slots t av0 h1
    refine ⟨v, hv, ?_⟩
    cases hn : namesT key av0 with
    | true => rw [if_pos rfl]; trivial
    | false => rw [if_neg (by simp)]; exact hr⟩
theorem spAppend_ok (hty : TysOk P ty) {env : List (Nat × AV)} {mem : List (Nat × Ct × Bool)} (h : RepB V β w0 N (lk env) (lk mem) a w) {dd : Nat} {x y : Operand} {t : TypeId} {o : Sp} (hs : spAppend ty env mem dd x y t = some o) (hp : o.pre) :
    ∃ v w' β', (execOp a.eval ⟨d, .call ⟨.builtin .append, #[x, y], #[t, t]⟩, tt, pos, after, g⟩).run P w = .ok (.value v) w' ∧ RepB V β' w0 N (lk o.env) (lk ((o.key, o.ct, false) :: mem)) a w' ∧ RepA V β' (lk ((o.key, o.ct, false) :: mem)) w' o.av v := by
  unfold spAppend at hs
  obtain ⟨⟨k, bytes⟩, hkb, hs⟩ := Option.bind_eq_some_iff.1 hs
  obtain ⟨el, ei, q, z, hu, hel, hki, hq, hq1, hqb, hz, hzc, hb1⟩ := intSl_ok hty hkb
  simp only at hki hqb hzc hb1 hs
  obtain ⟨l', hl', hs⟩ := Option.bind_eq_some_iff.1 hs
  obtain ⟨A, cap', hyv, hcap', hcell⟩ := yInts_ok h hl'
  have hzsize : z.cells.size = 1 := by rw [← Array.length_toList, hzc]; rfl
  have hge : ∀ need old, need ≤ grownCap w need old el := fun need old => grownCap_ge w need old el
  split at hs
  · -- onto nil
    rename_i hx
    split at hs
    · rename_i hfree
      cases hs
      simp only at hp ⊢
      have hxv : a.eval x = .slice none 0 0 := opd_v h hx
      by_cases hl0 : l' = []
      · subst hl0
        refine ⟨.slice none 0 0, w, addβ [(16 * dd, .ints k [], none)] β, ?_, ?_, ?_⟩
        · refine run_app_op w ?_
          rw [hxv, hyv]
          exact run_app_zero w t tt el q hu hq hq1 none A 0 0 cap' (Nat.le_refl _)
        · rw [lk_cons_fun, ← adds_one (16 * dd) (.ints k []) none]
          refine h.adds (Ext.refl w) _ (fun k0 x0 hx0 => ?_) (fun k0 c1 bo hx0 => ?_) (fun k0 k' c c' b hl hl' => ?_)
          · simp only [lk] at hx0
            split at hx0
            · rename_i hkk; subst hkk; exact hfree
            · cases hx0
          · simp only [lk] at hx0
            split at hx0
            · cases hx0; exact ⟨rfl, .inl ⟨rfl, rfl⟩⟩
            · cases hx0
          · simp only [lk] at hl
            split at hl <;> cases hl
        · refine ⟨.ints k [], false, 0, by simp [lk], ⟨Nat.zero_le _, fun b _ => Nat.zero_le _⟩, Nat.le_refl _, .inl ⟨by simp [addβ, lk], rfl, rfl⟩⟩
      · obtain ⟨ad, rfl, hcells⟩ := hcell hl0
        have hpos : 0 < l'.length := List.length_pos_iff.2 hl0
        have hmul : l'.length ≤ l'.length * bytes := Nat.le_mul_of_pos_right _ hb1
        have hrun := run_append_nil (P := P) w t tt el q z hu hq hz ad l'.length cap' (l'.map (.int k)) (by simp [hq1]) hcells hpos (by omega) (by rw [hqb]; omega)
        have hB := h.regrowNew (w' := w.drew.alloc (.cells ((l'.map (Value.int k)).toArray ++ Builtin.zeroCells z.cells (grownCap w l'.length 0 el - l'.length)) el)) (key := 16 * dd) (nb := w.heap.size) (c' := .ints k l') (T := el)
          (arr := (l'.map (Value.int k)).toArray ++ Builtin.zeroCells z.cells (grownCap w l'.length 0 el - l'.length)) (rest := (Builtin.zeroCells z.cells (grownCap w l'.length 0 el - l'.length)).toList) hfree
          (((Ext.drew w).trans (Ext.alloc _ _)).below h.below) ((Ext.drew w).trans (Ext.alloc _ _)) (heap_alloc_new w.drew _) (by simp [Ct.cells]) (okCells_ints _ _) (Nat.le_refl _)
        refine ⟨_, _, _, run_app_op w (by rw [hxv, hyv]; exact hrun), by rw [lk_cons_fun]; exact hB, ?_⟩
        refine ⟨.ints k l', false, grownCap w l'.length 0 el, by simp [lk], ⟨grownCap_le_maxLen w _ _ _ (by simp only [maxLen]; omega), fun b hb => ?_⟩, hge _ _, .inr ⟨w.heap.size, addβ_one _ _ _, rfl⟩⟩
        rw [addβ_one] at hb
        cases hb
        unfold bsz
        rw [show (w.drew.alloc (.cells ((l'.map (Value.int k)).toArray ++ Builtin.zeroCells z.cells (grownCap w l'.length 0 el - l'.length)) el)).heap[w.heap.size]? = _ from heap_alloc_new w.drew _]
        have := hge l'.length 0
        simp [size_zc, hzsize]
        omega
    · cases hs
  · -- onto a slice of the call's own
    rename_i key hx
    split at hs
    · rename_i k2 l hmk
      split at hs
      · rename_i hk2
        subst hk2
        cases hs
        simp only at hp ⊢
        obtain ⟨c, fr, cap, hk, hc2, hc1, h4⟩ := opd_ow h hx
        rw [hmk] at hk; cases hk
        have hlen : (Ct.ints k2 l).len = l.length := rfl
        rw [hlen] at hc1
        have hmul : l.length + l'.length ≤ (l.length + l'.length) * bytes := Nat.le_mul_of_pos_right _ hb1
        -- the block is another
        have grow : ∀ (arr : Array Value) (cap2 : Nat), arr.toList = (l ++ l').map (Value.int k2) ++ arr.toList.drop (l ++ l').length → (l ++ l').length ≤ cap2 → cap2 ≤ maxLen → cap2 ≤ arr.size →
            (Builtin.append_ #[t, t] tt #[a.eval x, a.eval y]).run P w = .ok (.slice (some ⟨w.heap.size, 0, none⟩) (l.length + l'.length) cap2) (w.drew.alloc (.cells arr el)) →
            ∃ v w' β', (execOp a.eval ⟨d, .call ⟨.builtin .append, #[x, y], #[t, t]⟩, tt, pos, after, g⟩).run P w = .ok (.value v) w' ∧ RepB V β' w0 N (lk (killE key env)) (lk ((key, .ints k2 (l ++ l'), false) :: mem)) a w' ∧ RepA V β' (lk ((key, .ints k2 (l ++ l'), false) :: mem)) w' (.ow key) v := by
          intro arr cap2 harr h1 h2 h3 hrun
          have hnb : (w.drew.alloc (.cells arr el)).heap[w.heap.size]? = some (.cells arr el (0, 0)) := heap_alloc_new w.drew _
          have hext : Ext w (w.drew.alloc (.cells arr el)) := (Ext.drew w).trans (Ext.alloc _ _)
          have hB := h.regrow (w' := w.drew.alloc (.cells arr el)) (key := key) (nb := w.heap.size) (c' := .ints k2 (l ++ l')) (T := el) (hext.below h.below) hext.size (fun j hj _ => hext.block j hj) hnb harr (okCells_ints _ _) h.below.size (.inl (Nat.le_refl _))
          refine ⟨_, _, _, run_app_op w hrun, by rw [lk_cons_fun]; exact hB, .ints k2 (l ++ l'), false, cap2, by simp [lk], ⟨h2, fun b hb => ?_⟩, h1, .inr ⟨w.heap.size, by simp, by simp [Ct.len]⟩⟩
          simp only [if_true, Option.some.injEq] at hb
          subst hb
          unfold bsz
          rw [hnb]
          simpa using h3
        -- nothing is added
        have same : l' = [] → ∃ v w' β', (execOp a.eval ⟨d, .call ⟨.builtin .append, #[x, y], #[t, t]⟩, tt, pos, after, g⟩).run P w = .ok (.value v) w' ∧ RepB V β' w0 N (lk (killE key env)) (lk ((key, .ints k2 (l ++ l'), false) :: mem)) a w' ∧ RepA V β' (lk ((key, .ints k2 (l ++ l'), false) :: mem)) w' (.ow key) v := by
          intro hl0
          subst hl0
          have hm' : lk ((key, Ct.ints k2 (l ++ []), false) :: mem) = lk mem := by
            funext j; simp only [lk]; split
            · rename_i hj; rw [hj, hmk, List.append_nil]
            · rfl
          rw [hm']
          have hxv : ∃ A cap3, a.eval x = .slice A l.length cap3 ∧ l.length ≤ cap3 := by
            rcases h4 with ⟨_, h0, hv⟩ | ⟨b, _, hv⟩
            · have hln : l.length = 0 := h0
              exact ⟨none, 0, by rw [hv, hln], by omega⟩
            · exact ⟨_, cap, hv, hc1⟩
          obtain ⟨A2, cap3, hxv, hc3⟩ := hxv
          refine ⟨a.eval x, w, β, run_app_op w ?_, h.kill key, ?_⟩
          · rw [hyv]
            rw [hxv]
            exact run_app_zero w t tt el q hu hq hq1 A2 A l.length cap3 cap' hc3
          · have := h.opd x
            rw [hx] at this
            exact this
        by_cases hl0 : l' = []
        · exact same hl0
        · obtain ⟨ad, rfl, hcells⟩ := hcell hl0
          have hpos : 0 < l'.length := List.length_pos_iff.2 hl0
          rcases h4 with ⟨hbn, h0, hxv⟩ | ⟨b, hb, hxv⟩
          · have hlnil : l = [] := List.length_eq_zero_iff.1 h0
            subst hlnil
            have hrun := run_append_nil (P := P) w t tt el q z hu hq hz ad l'.length cap' (l'.map (.int k2)) (by simp [hq1]) hcells hpos (by simp at hmul hp; omega) (by rw [hqb]; simp at hp; omega)
            refine grow ((l'.map (Value.int k2)).toArray ++ Builtin.zeroCells z.cells (grownCap w l'.length 0 el - l'.length)) (grownCap w l'.length 0 el) ?_ (by simpa using hge _ _) (grownCap_le_maxLen w _ _ _ (by simp at hmul hp; simp only [maxLen]; omega)) ?_ (by rw [hxv, hyv]; simpa using hrun)
            · simp
            · have := hge l'.length 0
              simp [size_zc, hzsize]
              omega
          · rcases (h.mem key _ _ hmk).2 with ⟨hbad, _⟩ | ⟨b', arr, T, rest, hb', hB, hh, harr⟩
            · rw [hb] at hbad; cases hbad
            · rw [hb] at hb'; cases hb'
              have hcells0 : ∀ j u, (l.map (Value.int k2))[j]? = some u → w.cell? ((⟨b, 0, none⟩ : Addr).add j) = some u := fun j u hu => by
                have hj : j < (l.map (Value.int k2)).length := (List.getElem?_eq_some_iff.1 hu).1
                rw [Addr.add_plain, Nat.zero_add]
                exact h.cell hmk hb (by simpa [Ct.cells] using hu)
              have hasz : cap ≤ arr.size := by
                have := hc2.2 b hb
                unfold bsz at this
                rw [hh] at this
                simpa using this
              by_cases hroom : l.length + l'.length ≤ cap
              · have hrun := run_app_room (P := P) w t tt el q hu hq hq1 b l.length cap arr T hh ad l'.length cap' (l'.map (.int k2)) (by simp) hcells okCells_one hroom (by omega)
                let arr' := (arr.toList.take l.length ++ l'.map (Value.int k2) ++ arr.toList.drop (l.length + l'.length)).toArray
                have hlarr : arr.toList.length = arr.size := Array.length_toList
                have harr' : arr'.toList = (Ct.ints k2 (l ++ l')).cells ++ arr.toList.drop (l.length + l'.length) := by
                  have : arr.toList.take l.length = l.map (Value.int k2) := by rw [harr]; simp [Ct.cells]
                  simp only [arr', this, Ct.cells, List.map_append]
                have hnb : (w.setRow b arr').heap[b]? = some (.cells arr' T (0, 0)) := setRow_heap w b arr arr' T (0, 0) hh
                have hsz : arr'.size = arr.size := by
                  simp only [arr', List.size_toArray, List.length_append, List.length_take, List.length_map, List.length_drop, hlarr]
                  omega
                have hbel : Below w0.heap.size w0 (w.setRow b arr') := h.below.trans ⟨rfl, rfl, rfl, by simp, fun j hj => setRow_other w b j arr' (by omega)⟩
                have hBB := h.regrow (w' := w.setRow b arr') (key := key) (nb := b) (c' := .ints k2 (l ++ l')) (T := T) hbel (by simp) (fun j _ hne => setRow_other w b j arr' hne) hnb harr' (okCells_ints _ _) hB (.inr ⟨hb, _, hmk⟩)
                refine ⟨_, _, _, run_app_op w (by rw [hxv, hyv]; exact hrun), by rw [lk_cons_fun]; exact hBB, .ints k2 (l ++ l'), false, cap, by simp [lk], ⟨hc2.1, fun b2 hb2 => ?_⟩, by simpa [Ct.len] using hroom, .inr ⟨b, by simp, by simp [Ct.len]⟩⟩
                simp only [if_true, Option.some.injEq] at hb2
                subst hb2
                unfold bsz
                rw [hnb]
                simp only
                omega
              · have hrun := run_append_grow (P := P) w t tt el q z hu hq hz ⟨b, 0, none⟩ l.length cap (l.map (.int k2)) (by simp [hq1]) hcells0 ad l'.length cap' (l'.map (.int k2)) (by simp [hq1]) hcells (by omega) (by omega) (growslice_fits (by omega) (by rw [hqb]; exact hp))
                refine grow _ (grownCap w (l.length + l'.length) cap el) ?_ (by simpa using hge _ _) (grownCap_le_maxLen w _ _ _ (by simp only [maxLen]; omega)) ?_ (by rw [hxv, hyv]; exact hrun)
                · have : ∀ (p r : List Value), p ++ r = p ++ (p ++ r).drop p.length := fun p r => by simp
                  have h2 := this ((l ++ l').map (Value.int k2)) (Builtin.zeroCells z.cells (grownCap w (l.length + l'.length) cap el - (l.length + l'.length))).toList
                  simpa [List.append_assoc] using h2
                · have := hge (l.length + l'.length) cap
                  simp [size_zc, hzsize]
                  omega
      · cases hs
    · cases hs
  · cases hs
end Go.AM
