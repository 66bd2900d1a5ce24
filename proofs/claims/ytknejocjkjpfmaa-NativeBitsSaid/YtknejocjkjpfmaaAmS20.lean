/- Part AmS20 of the proof: own text. -/
import Derived.Test.YtknejocjkjpfmaaAmS18
set_option linter.all false
namespace Go.AM
variable {P : Program} {V : Nat → Prop} {w0 : World} {N : Nat}
variable {ty : Ty} {Γ : Gam}
theorem drawOk_ok (hm : P.follows .mixedOrders = true) (hty : TysOk P ty) (hΓ : GamOk P Γ) : DrawOk P ty Γ := by
  intro V w0 N id ops Qp env0 mem0 a0 w0' hN hd hawp hrep
  refine wp_region_any hm ?_
  obtain ⟨s, hE0, hM0, -, -, hst, env', mem', hE', hM', hK⟩ := chain_ok ops.toList 0 [] [] env0 mem0 rfl hawp
  simp only [Nat.zero_add] at hst hE' hM'
  let l := ops.toList
  have hf : Facts ty Γ l env0 mem0 s := facts_ok hd hE0 hM0 fun k hk => hst k (Nat.zero_le _) hk
  have hlen : l.length = ops.size := by simp [l]
  have hslot : ∀ (k : Nat) (o : Oper), l[k]? = some o → slotD l k = o.dst := fun k o ho => by simp [slotD, ho]
  have uniq : ∀ {k : Nat} {o o' : Oper}, l[k]? = some o → l[k]? = some o' → o = o' := fun h1 h2 => by rw [h1] at h2; injection h2
  have main : ∀ (fuel : Nat) (listed : Array Bool) (env : List (Nat × AV)) (mem : List (Nat × Ct × Bool)) (a : Act) (w : World), listed.size = l.length →
      (∀ j o, l[j]? = some o → listed.getD j false = true → ∀ e ∈ o.after, Region.binds .any e = true → listed.getD e.on false = true) →
      Inv l env0 mem0 s.A s.Q (fun k => listed.getD k false = true) env mem → Rep V w0 N (lk env) (lk mem) a w → (List.range l.length).countP (fun i => !listed.getD i false) ≤ fuel → wpAny P .any ops (lift V w0 N Qp) fuel listed a w := by
    intro fuel
    have hbd : ∀ (listed : Array Bool), listed.size = l.length → ∀ k, listed.getD k false = true → k < l.length := fun listed hs k hk => by
      rcases Nat.lt_or_ge k listed.size with h | h
      · omega
      · simp [Array.getElem?_eq_none h] at hk
    have done : ∀ (listed : Array Bool) (env : List (Nat × AV)) (mem : List (Nat × Ct × Bool)) (a : Act) (w : World), listed.size = l.length → (∀ i, i < l.length → listed.getD i false = true) →
        Inv l env0 mem0 s.A s.Q (fun k => listed.getD k false = true) env mem → Rep V w0 N (lk env) (lk mem) a w → lift V w0 N Qp .normal a w := by
      intro listed env mem a w hs hall hI hr
      have hIn : Inv l env0 mem0 s.A s.Q (fun k => k < l.length) env mem := hI.congr fun k => ⟨fun h => hbd listed hs k h, fun h => hall k h⟩
      have he : lk env = lk env' := by
        rw [hE']; funext t
        exact Inv.env_eq (n := l.length) (fun k h => h) hIn (hf.text l.length (Nat.le_refl _)) fun r _ => Iff.rfl
      have hmm : lk mem = lk mem' := by
        rw [hM']; funext key
        exact Inv.mem_eq (n := l.length) (fun k h => h) hIn (hf.text l.length (Nat.le_refl _)) fun r _ => Iff.rfl
      rw [he, hmm] at hr
      exact ⟨env', mem', hK, hr⟩
    have noReady : ∀ (listed : Array Bool), listed.size = l.length → (∀ i, i < l.length → listed.getD i false = true) → Region.ready .any ops listed = [] := by
      intro listed hs hall
      apply List.eq_nil_iff_forall_not_mem.2
      intro i hi
      obtain ⟨h1, o, ho, _⟩ := mem_ready.1 hi
      have hio : i < ops.size := (Array.getElem?_eq_some_iff.1 ho).1
      have h2 := hall i (by omega)
      have : i < listed.size := by omega
      simp [this] at h1 h2
      rw [h1] at h2; cases h2
    induction fuel with
    | zero =>
      intro listed env mem a w hs hcl hI hr hfu
      have hall : ∀ i, i < l.length → listed.getD i false = true := fun i hi => by
        have := List.countP_eq_zero.1 (Nat.le_zero.1 hfu) i (by simpa using hi)
        simpa using this
      exact ⟨noReady listed hs hall, done listed env mem a w hs hall hI hr⟩
    | succ fuel ih =>
      intro listed env mem a w hs hcl hI hr hfu
      by_cases hall : ∀ i, i < l.length → listed.getD i false = true
      · have h0 := noReady listed hs hall
        exact ⟨fun _ => done listed env mem a w hs hall hI hr, by rw [h0]; simp⟩
      · have hex : ∃ i, i < l.length ∧ listed.getD i false = false := Classical.byContradiction fun h => hall fun i hi => by
          cases hv : listed.getD i false with
          | true => rfl
          | false => exact absurd ⟨i, hi, hv⟩ h
        have hmin : ∃ i, i < l.length ∧ listed.getD i false = false ∧ ∀ j, j < i → listed.getD j false = true := by
          obtain ⟨i, hi⟩ := hex
          induction i using Nat.strongRecOn with
          | ind i ih2 =>
            by_cases hj : ∃ j, j < i ∧ listed.getD j false = false
            · obtain ⟨j, h1, h2⟩ := hj
              exact ih2 j h1 ⟨by omega, h2⟩
            · refine ⟨i, hi.1, hi.2, fun j hj2 => ?_⟩
              cases hv : listed.getD j false with
              | true => rfl
              | false => exact absurd ⟨j, hj2, hv⟩ hj
        obtain ⟨i0, hi0, hl0, hb0⟩ := hmin
        have dd : ∀ i, i < l.length → ∀ d d', listed.getD i d = listed.getD i d' := fun i hi d d' => by
          have : i < listed.size := by omega
          simp [this]
        refine wpAny_mono_fuel (fun h0 => ?_) fun i hi => ?_
        · have ho : l[i0]? = some l[i0] := List.getElem?_eq_getElem hi0
          have : i0 ∈ Region.ready .any ops listed := mem_ready.2 ⟨by rw [dd i0 hi0 true false]; exact hl0, l[i0], by simpa [l] using ho, fun e he hb => hb0 _ ((drawOk_spec hd ho).1 e he hb)⟩
          rw [h0] at this
          cases this
        · obtain ⟨h1, o, ho, h2⟩ := mem_ready.1 hi
          have ho' : l[i]? = some o := by simpa [l] using ho
          have hil : i < l.length := (List.getElem?_eq_some_iff.1 ho').1
          have hli : listed.getD i false = false := by rw [dd i hil false true]; exact h1
          obtain ⟨o2, ho2, hdo, _⟩ := hf.step i hil
          obtain rfl := uniq ho' ho2
          have hIt := hf.text i (Nat.le_of_lt hil)
          -- who writes what this operation reads stands as in the text
          have hsame : ∀ r, r < l.length → ((∃ t, slotD l r = some t ∧ t ∈ looks l o) ∨ (∃ key ∈ s.R i, lk (s.Q r) key ≠ none)) → (listed.getD r false = true ↔ r < i) := fun r hr hc => by
            obtain ⟨c1, c2⟩ := hf.raw i o r ho' hr hc
            by_cases hri : r = i
            · subst hri; simp only [hli]; constructor
              · intro h; cases h
              · intro h; omega
            · constructor
              · intro h
                refine Classical.byContradiction fun hge => ?_
                obtain ⟨or', hor⟩ : ∃ or', l[r]? = some or' := ⟨_, List.getElem?_eq_getElem hr⟩
                obtain ⟨e, he, hb, hon⟩ := edged_on (c2 (by omega) or' hor)
                have := hcl r or' hor h e he hb
                rw [hon, hli] at this
                cases this
              · intro h
                obtain ⟨e, he, hb, hon⟩ := edged_on (c1 h)
                exact hon ▸ h2 e he hb
          have hb1 : ∀ k, listed.getD k false = true → k < l.length := hbd listed hs
          have henv : ∀ t ∈ looks l o, lk env t = lk (s.E i) t := fun t ht => by
            refine Inv.env_eq (n := l.length) hb1 hI hIt fun r hr => ?_
            by_cases hrn : r < l.length
            · exact hsame r hrn (.inl ⟨t, hr, ht⟩)
            · simp [slotD, List.getElem?_eq_none (by omega : l.length ≤ r)] at hr
          have hmem : ∀ key ∈ s.R i, lk mem key = lk (s.M i) key := fun key hk => by
            have hI2 : Inv l env0 mem0 s.A s.Q (fun k => k < l.length ∧ listed.getD k false = true) env mem := hI.congr fun k => ⟨fun h => ⟨hb1 k h, h⟩, fun h => h.2⟩
            refine Inv.mem_eq (n := l.length) (fun k h => h.1) hI2 hIt fun r hr => ?_
            by_cases hrn : r < l.length
            · rw [← hsame r hrn (.inr ⟨key, hk, hr⟩)]
              exact ⟨fun h => h.2, fun h => ⟨hrn, h⟩⟩
            · exact ⟨fun h => absurd h.1 hrn, fun h => absurd (Nat.lt_trans h hil) hrn⟩
          have htm : ∀ t ∈ tmpsOf o.op, t ∈ looks l o := fun t ht => by unfold looks; exact List.mem_append_left _ ht
          have hguard : wantedA l ⟨lk env, lk mem⟩ o.guard = wantedA l ⟨lk (s.E i), lk (s.M i)⟩ o.guard := by
            unfold wantedA aGuard
            cases hg : o.guard with
            | none => rfl
            | some jb =>
              obtain ⟨j, b⟩ := jb
              simp only
              cases hsl : (l[j]?).bind (·.dst) with
              | none => rfl
              | some sl =>
                have : sl ∈ looks l o := by unfold looks; rw [hg]; simp [hsl]
                simp only [henv sl this]
          have hagree : s.R i = rdKeys (lk (s.E i)) (tmpsOf o.op) → ∀ x ∈ o.op.operands, Agree ⟨lk env, lk mem⟩ ⟨lk (s.E i), lk (s.M i)⟩ x := by
            intro hR x hx
            cases x with
            | tmp t =>
              have ht := mem_tmpsOf hx
              have het := henv t (htm t ht)
              refine ⟨by simp only [opd]; rw [het], fun key hk => ?_⟩
              have hk' : ((lk (s.E i)) t).bind keyOn = some key := by
                simp only [opd] at hk
                rw [het] at hk
                cases hv : lk (s.E i) t with
                | none => rw [hv] at hk; cases hk
                | some av => rw [hv] at hk; simpa using hk
              exact hmem key (by rw [hR]; exact mem_rdKeys ht hk')
            | const v => exact ⟨rfl, fun key hk => by cases hk⟩
            | _ => exact ⟨rfl, fun key hk => by cases hk⟩
          have hwaw : ∀ j, listed.getD j false = true → ((∃ t, slotD l j = some t ∧ slotD l i = some t) ∨ ∃ key, lk (s.Q j) key ≠ none ∧ lk (s.Q i) key ≠ none) → j < i := fun j hj hc => by
            have hjn := hb1 j hj
            refine Classical.byContradiction fun hge => ?_
            have hji : j ≠ i := fun h => by rw [h, hli] at hj; cases hj
            obtain ⟨oj, hoj⟩ : ∃ oj, l[j]? = some oj := ⟨_, List.getElem?_eq_getElem hjn⟩
            obtain ⟨e, he, hb, hon⟩ := edged_on (hf.waw j i hjn hil hc (by omega) oj hoj)
            have := hcl j oj hoj hj e he hb
            rw [hon, hli] at this
            cases this
          have hrec : ∀ (env2 : List (Nat × AV)) (mem2 : List (Nat × Ct × Bool)) (a2 : Act) (w2 : World), lk env2 = lk (putE (slotD l i) (s.A i) env) → lk mem2 = lk (s.Q i ++ mem) → Rep V w0 N (lk env2) (lk mem2) a2 w2 → wpAny P .any ops (lift V w0 N Qp) fuel (listed.setIfInBounds i true) a2 w2 := by
            intro env2 mem2 a2 w2 he hmm hr2
            have hsz : i < listed.size := by omega
            refine ih _ env2 mem2 a2 w2 (by simp [hs]) (fun j oj hoj hj e hee hbb => ?_) ?_ hr2 ?_
            · rw [getD_set false hsz] at hj ⊢
              split
              · rfl
              · split at hj
                · rename_i hji
                  subst hji
                  obtain rfl := uniq hoj ho'
                  exact h2 e hee hbb
                · exact hcl j oj hoj hj e hee hbb
            · refine (Inv.step hI (k := i) (by simp [hli]) (fun j t hj h3 h4 => hwaw j hj (.inl ⟨t, h3, h4⟩)) (fun j key hj h3 h4 => hwaw j hj (.inr ⟨key, h3, h4⟩)) he hmm).congr fun k => ?_
              rw [getD_set false hsz]
              by_cases hki : k = i
              · subst hki; simp
              · simp [hki]
            · have := count_set (p := fun j => !listed.getD j false) (p' := fun j => !(listed.setIfInBounds i true).getD j false) (k := i) (by simp only [hli]; rfl) (fun j => by
                rw [getD_set false hsz]
                by_cases hji : j = i
                · subst hji; simp
                · simp [hji]) l.length hil
              omega
          unfold wpOp
          have hopi : ops[i]? = some o := by simpa [l] using ho'
          simp only [hopi]
          have hw : ∀ t, wantedA l ⟨lk env, lk mem⟩ o.guard = some t → Region.wanted o (yielded ops a.tmps) = t := fun t ht => by
            have := wanted_ok (o := o) hty hΓ hr ht
            simpa [l] using this
          have hdN : ∀ d, o.dst = some d → d < N := hN o (by simpa [l] using List.mem_of_getElem? ho')
          rcases hdo with ⟨hwt, hkeys, hcla, hR, ⟨d, hdst, ⟨p, hs1, hp⟩, hf1, hz1⟩ | ⟨hdst, t, x, y, p, key, c, hop, hs1, hp, hk0, hck, hQ⟩⟩ | ⟨hwt, hA, hQ, hR⟩
          · rw [if_pos (hw true (hguard.trans hwt))]
            have hs2 : aStep ty Γ ⟨lk env, lk mem⟩ d o.op = some ⟨p, s.A i, s.Q i⟩ := (aStep_congr (hagree hR)).trans hs1
            have hf2 : freshM (lk mem) d (s.Q i) := freshM_of fun x hx => by
              have h3 := freshM_all hf1 hz1 x hx
              obtain ⟨d', hd', _, _, h4, h5⟩ := hf.own i o ho' (by rw [hdst]; rfl) x hx
              refine ⟨h3.1, h3.2, ?_⟩
              rw [hI.m2 x.1 fun j hj => h5 j (hb1 j hj) fun h => by rw [h, hli] at hj; cases hj]
              exact h4
            refine .inl ?_
            obtain ⟨β, hb⟩ := hr
            obtain ⟨dst, op, tt, pos, after, g⟩ := o
            simp only at hdst hs2
            subst hdst
            refine step_ok (d := some d) (tt := tt) (pos := pos) (after := after) (g := g) hb hty hΓ hs2 hp hf2 _ _ fun v w' β' hb' hv => ?_
            exact hrec _ _ _ _ (by rw [hslot i _ ho']; rfl) rfl ⟨β', hb'.put (hdN d rfl) hv⟩
          · rw [if_pos (hw true (hguard.trans hwt))]
            have hag := hagree hR
            rw [hop] at hag
            have hs2 : aStore ty ⟨lk env, lk mem⟩ t x y = some (key, p, c) := (aStore_congr (hag x (by simp [Op.operands])) (hag y (by simp [Op.operands]))).trans hs1
            refine .inl ?_
            obtain ⟨β, hb⟩ := hr
            obtain ⟨dst, op, tt, pos, after, g⟩ := o
            simp only at hdst hop
            subst hdst hop
            obtain ⟨w', hrun, hb'⟩ := store_ok (d := none) (tt := tt) (pos := pos) (after := after) (g := g) hb hty hs2 hp
            unfold Oper.wp
            rw [hrun, Oper.upon_skip]
            exact hrec env ((key, c, false) :: mem) _ _ (by rw [hslot i _ ho']; rfl) (by rw [hQ]; rfl) ⟨β, hb'⟩
          · rw [if_neg (by simp [hw false (hguard.trans hwt)])]
            have hu := Rep.putUndef (o := o) hr hdN
            have hskip : lk (skipE o.dst env) = lk (putE (slotD l i) (s.A i) env) := by
              rw [hslot i o ho']
              cases hdd : o.dst with
              | none => rfl
              | some d => rw [hA (by rw [hdd]; rfl)]; rfl
            exact hrec _ _ _ _ hskip (by rw [hQ]; rfl) hu
  have hrep2 : Rep V w0 N (lk env0) (lk mem0) a0 { w0' with drawn := w0'.drawn + 1 } := by
    obtain ⟨β, h⟩ := hrep
    exact ⟨β, h.fresh, Ext.below (Ext.drew w0') h.below, h.size, h.defers, h.mem, h.inj, fun k av he => by
      obtain ⟨v, h1, h2⟩ := h.slots k av he
      exact ⟨v, h1, h2.ext (Ext.drew w0')⟩⟩
  have hempty : ∀ k, (Array.replicate ops.size false).getD k false = false := fun k => by
    by_cases h : k < ops.size
    · simp [h]
    · simp [Array.getElem?_eq_none (by simpa using h : (Array.replicate ops.size false).size ≤ k)]
  refine main ops.size _ env0 mem0 a0 _ (by simp [l]) (fun j o ho hj => by rw [hempty] at hj; cases hj) ?_ hrep2 ?_
  · have h1 : Inv l env0 mem0 s.A s.Q (fun _ => False) env0 mem0 := ⟨fun _ _ h => h.elim, fun t _ => rfl, fun _ _ h => h.elim, fun key _ => rfl⟩
    exact h1.congr fun k => by rw [hempty]; simp
  · have := List.countP_le_length (p := fun i => !(Array.replicate ops.size false).getD i false) (l := List.range l.length)
    rw [List.length_range] at this
    omega
end Go.AM
