/- Part AmS18 of the proof: own text. -/
import Derived.Test.YtknejocjkjpfmaaAmS17
set_option linter.all false
namespace Go.AM
variable {P : Program} {V : Nat → Prop} {w0 : World} {N : Nat}
variable {ty : Ty} {Γ : Gam}
theorem mem_tmpsOf {op : Op} {t : Nat} : Operand.tmp t ∈ op.operands → t ∈ tmpsOf op := fun h => by
  unfold tmpsOf
  exact List.mem_filterMap.2 ⟨.tmp t, by simpa using h, rfl⟩
theorem keysAt_spec {mem0 : List (Nat × Ct × Bool)} {e : Env} : ∀ {l : List Nat}, keysAt mem0 e l = true → ∀ t ∈ l, ∀ key, (e t).bind keyOn = some key → (lk mem0 key).isSome = true ∨ key / 16 = t
  | [], _, t, ht => by cases ht
  | x :: l, h, t, ht => by
    simp only [keysAt, Bool.and_eq_true] at h
    rcases List.mem_cons.1 ht with rfl | ht
    · intro key hk
      have h1 := h.1
      unfold keyAt at h1
      rw [hk] at h1
      simpa [Bool.or_eq_true] using h1
    · exact keysAt_spec h.2 t ht
theorem mem_rdKeys {e : Env} {l : List Nat} {t key : Nat} (ht : t ∈ l) (hk : (e t).bind keyOn = some key) : key ∈ rdKeys e l := List.mem_filterMap.2 ⟨t, ht, hk⟩
theorem freshM_lk {m : Mem} {d : Nat} : ∀ {q : List (Nat × Ct × Bool)}, freshM m d q → noFz q → ∀ key, lk q key ≠ none → 16 * d ≤ key ∧ key < 16 * d + 16 ∧ m key = none
  | [], _, _, key, h => absurd rfl h
  | (k, c, fr) :: r, h, hz, key, hk => by
    simp only [lk] at hk
    by_cases hkk : key = k
    · subst hkk
      rcases h.1 with h1 | h1
      · rw [hz.1] at h1; cases h1
      · exact h1
    · rw [if_neg hkk] at hk
      exact freshM_lk h.2 hz.2 key hk
theorem freshM_of {m : Mem} {d : Nat} : ∀ {q : List (Nat × Ct × Bool)}, (∀ x ∈ q, 16 * d ≤ x.1 ∧ x.1 < 16 * d + 16 ∧ m x.1 = none) → freshM m d q
  | [], _ => trivial
  | (k, c, fr) :: r, h => ⟨.inr (h (k, c, fr) (List.mem_cons_self ..)), freshM_of fun x hx => h x (List.mem_cons_of_mem _ hx)⟩
theorem freshM_all {m : Mem} {d : Nat} : ∀ {q : List (Nat × Ct × Bool)}, freshM m d q → noFz q → ∀ x ∈ q, 16 * d ≤ x.1 ∧ x.1 < 16 * d + 16
  | [], _, _, x, h => by cases h
  | (k, c, fr) :: r, h, hz, x, hx => by
    rcases List.mem_cons.1 hx with rfl | hx
    · rcases h.1 with h1 | h1
      · rw [hz.1] at h1; cases h1
      · exact ⟨h1.1, h1.2.1⟩
    · exact freshM_all h.2 hz.2 x hx
theorem lk_ne_of_mem {α : Type} : ∀ {l : List (Nat × α)} {x : Nat × α}, x ∈ l → lk l x.1 ≠ none
  | (k, y) :: r, x, hx => by
    simp only [lk]
    by_cases h : x.1 = k
    · simp [h]
    · rw [if_neg h]
      rcases List.mem_cons.1 hx with rfl | hx
      · exact absurd rfl h
      · exact lk_ne_of_mem hx
theorem aStore_congr {s s' : St} {t : TypeId} {x y : Operand} (hx : Agree s s' x) (hy : Agree s s' y) : aStore ty s t x y = aStore ty s' t x y := by
  unfold aStore
  rw [← hx.1, ← hy.1]
  cases hk : opd s x <;> simp only
  rename_i key off
  have hm := hx.2 key (by rw [hk]; rfl)
  cases hv : valOf (opd s y) <;> simp only [hm]
theorem isAs_Q {s : St} {d : Nat} {o : Oper} {p : Prop} {a : AV} {q : List (Nat × Ct × Bool)} (h : aStep ty Γ s d o.op = some ⟨p, a, q⟩) (ho : isAs o = true) : q = [] := by
  unfold isAs at ho
  split at ho
  · rename_i x hop
    rw [hop] at h
    simp only [aStep, Option.some.injEq, Out.mk.injEq] at h
    exact h.2.2.symm
  · cases ho
theorem hits_some {t : Nat} {l : List Nat} (h : t ∈ l) : hits (some t) l = true := by simpa [hits] using h
theorem meddle_raw {ops : List Oper} {i j : Nat} {t : Nat} {o : Oper} (hi : ops[i]? = some o) (hj : slotD ops j = some t) (ht : t ∈ looks ops o) : meddle ops i j = true := by
  unfold meddle
  rw [hj, show looksAt ops i = looks ops o by simp [looksAt, hi], hits_some ht]
  rfl
theorem meddle_war {ops : List Oper} {i j : Nat} {t : Nat} {o : Oper} (hj : ops[j]? = some o) (hi : slotD ops i = some t) (ht : t ∈ looks ops o) : meddle ops i j = true := by
  unfold meddle
  rw [hi, show looksAt ops j = looks ops o by simp [looksAt, hj], hits_some ht]
  simp
theorem meddle_waw {ops : List Oper} {i j : Nat} {t : Nat} (hi : slotD ops i = some t) (hj : slotD ops j = some t) : meddle ops i j = true := by
  unfold meddle
  rw [hi, hj]
  simp

/-- All that the text's run of a region says of its operations, with the edges. -/
structure Facts (ty : Ty) (Γ : Gam) (l : List Oper) (env0 : List (Nat × AV)) (mem0 : List (Nat × Ct × Bool)) (s : Seqs) : Prop where
  step : ∀ k, k < l.length → StepAt ty Γ l mem0 s k
  text : ∀ k, k ≤ l.length → Inv l env0 mem0 s.A s.Q (fun j => j < k) (s.E k) (s.M k)
  /-- Whoever writes what the operation reads is before it and tied, or behind it and tied. -/
  raw : ∀ k o r, l[k]? = some o → r < l.length → (∃ t, slotD l r = some t ∧ t ∈ looks l o) ∨ (∃ key ∈ s.R k, lk (s.Q r) key ≠ none) → (r < k → edged o r = true) ∧ (k < r → ∀ o', l[r]? = some o' → edged o' k = true)
  waw : ∀ j k, j < l.length → k < l.length → ((∃ t, slotD l j = some t ∧ slotD l k = some t) ∨ ∃ key, lk (s.Q j) key ≠ none ∧ lk (s.Q k) key ≠ none) → k < j → ∀ o, l[j]? = some o → edged o k = true
  /-- New blocks are new to the region's start, and each operation's own. -/
  own : ∀ k o, l[k]? = some o → o.dst.isSome = true → ∀ x ∈ s.Q k, ∃ d : Nat, o.dst = some d ∧ 16 * d ≤ x.1 ∧ x.1 < 16 * d + 16 ∧ lk mem0 x.1 = none ∧ ∀ j, j < l.length → j ≠ k → lk (s.Q j) x.1 = none
theorem lk_ne_mem {α : Type} {l : List (Nat × α)} {k : Nat} (h : lk l k ≠ none) : ∃ x ∈ l, x.1 = k := by
  cases hl : lk l k with
  | none => exact absurd hl h
  | some y => exact ⟨(k, y), lk_mem hl, rfl⟩
theorem aStore_key {s : St} {t : TypeId} {x y : Operand} {key : Nat} {p : Prop} {c : Ct} (h : aStore ty s t x y = some (key, p, c)) : ∃ tm av, x = .tmp tm ∧ s.e tm = some av ∧ keyOn av = some key := by
  unfold aStore at h
  split at h
  · rename_i key' off v hx hy
    split at h
    · split at h
      · obtain ⟨⟨p', c'⟩, h3, h4⟩ := Option.map_eq_some_iff.1 h
        cases h4
        cases x with
        | tmp tm =>
          simp only [opd] at hx
          cases hv : s.e tm with
          | none => rw [hv] at hx; cases hx
          | some av => rw [hv] at hx; simp only [Option.getD_some] at hx; exact ⟨tm, av, rfl, hv, by rw [hx]; rfl⟩
        | const v => cases hx
        | _ => cases hx
      · cases h
    · cases h
  · cases h
theorem facts_ok {l : List Oper} {env0 : List (Nat × AV)} {mem0 : List (Nat × Ct × Bool)} {s : Seqs} (hd : drawOk l = true) (hE : lk (s.E 0) = lk env0) (hM : lk (s.M 0) = lk mem0) (hst : ∀ k, k < l.length → StepAt ty Γ l mem0 s k) : Facts ty Γ l env0 mem0 s := by
  have hslot : ∀ (k : Nat) (o : Oper), l[k]? = some o → slotD l k = o.dst := fun k o ho => by simp [slotD, ho]
  have uniq : ∀ {k : Nat} {o o' : Oper}, l[k]? = some o → l[k]? = some o' → o = o' := fun h1 h2 => by rw [h1] at h2; injection h2
  have lt : ∀ {k : Nat} {o : Oper}, l[k]? = some o → k < l.length := fun h => (List.getElem?_eq_some_iff.1 h).1
  have text : ∀ k, k ≤ l.length → Inv l env0 mem0 s.A s.Q (fun j => j < k) (s.E k) (s.M k) := by
    intro k
    induction k with
    | zero =>
      intro _
      have h1 : Inv l env0 mem0 s.A s.Q (fun _ => False) (s.E 0) (s.M 0) := ⟨fun _ _ h => h.elim, fun t _ => by rw [hE], fun _ _ h => h.elim, fun key _ => by rw [hM]⟩
      exact h1.congr fun j => by simp
    | succ k ih =>
      intro hk
      obtain ⟨o, ho, hdo, he, hm, _⟩ := hst k hk
      refine (Inv.step (ih (by omega)) (k := k) (by omega) (fun j t hj _ _ => hj) (fun j key hj _ _ => hj) (by rw [hslot k o ho]; exact he) hm).congr fun j => by omega
  have hrd : ∀ k, k ≤ l.length → ∀ j, j < k → ∀ key ∈ s.R j, (j, key) ∈ s.rd k := by
    intro k
    induction k with
    | zero => intro _ j hj; omega
    | succ k ih =>
      intro hk j hj key hkey
      obtain ⟨o, ho, hdo, he, hm, h1, h2⟩ := hst k hk
      rw [h1]
      by_cases hjk : j = k
      · subst hjk; exact List.mem_append_left _ (List.mem_map.2 ⟨key, hkey, rfl⟩)
      · exact List.mem_append_right _ (ih (by omega) j (by omega) key hkey)
  have hwr : ∀ k, k ≤ l.length → ∀ (j : Nat) (o : Oper), j < k → l[j]? = some o → o.dst = none → ∀ x ∈ s.Q j, (j, x.1) ∈ s.wr k := by
    intro k
    induction k with
    | zero => intro _ j o hj; omega
    | succ k ih =>
      intro hk j o' hj ho' hdn x hx
      obtain ⟨o, ho, hdo, he, hm, h1, h2⟩ := hst k hk
      rw [h2]
      by_cases hjk : j = k
      · subst hjk
        obtain rfl := uniq ho ho'
        rw [hdn]
        exact List.mem_append_left _ (List.mem_map.2 ⟨x, hx, rfl⟩)
      · exact List.mem_append_right _ (ih (by omega) j o' (by omega) ho' hdn x hx)
  -- what a store writes stood at the region's start
  have hstore : ∀ (k : Nat) (o : Oper), l[k]? = some o → o.dst = none → ∀ x ∈ s.Q k, (lk mem0 x.1).isSome = true ∧ x.1 ∈ s.R k ∧ clashK (s.rd k) o x.1 = true ∧ clash (s.wr k) o (s.R k) = true := by
    intro k o ho hdn x hx
    obtain ⟨o', ho', hdo, _⟩ := hst k (lt ho)
    obtain rfl := uniq ho' ho
    rcases hdo with ⟨_, hkeys, hcl, hR, ⟨d, hd', _⟩ | ⟨_, t, y, z, p, key, c, hop, hs, hp, hm0, hck, hQ⟩⟩ | ⟨_, _, hQ, _⟩
    · rw [hdn] at hd'; cases hd'
    · rw [hQ] at hx
      simp only [List.mem_singleton] at hx
      subst hx
      refine ⟨hm0, ?_, hck, hcl⟩
      obtain ⟨tm, av, rfl, hav, hko⟩ := aStore_key hs
      rw [hR]
      exact mem_rdKeys (t := tm) (mem_tmpsOf (by rw [hop]; simp [Op.operands])) (by simp only at hav; rw [hav]; exact hko)
    · rw [hQ] at hx; cases hx
  have own : ∀ (k : Nat) (o : Oper), l[k]? = some o → o.dst.isSome = true → ∀ x ∈ s.Q k, ∃ d : Nat, o.dst = some d ∧ 16 * d ≤ x.1 ∧ x.1 < 16 * d + 16 ∧ lk mem0 x.1 = none ∧ isAs o = false := by
    intro k o ho hds x hx
    obtain ⟨o', ho', hdo, _⟩ := hst k (lt ho)
    obtain rfl := uniq ho' ho
    rcases hdo with ⟨_, hkeys, hcl, hR, ⟨d, hd', ⟨p, hs, hp⟩, hf, hz⟩ | ⟨hdn, _⟩⟩ | ⟨_, _, hQ, _⟩
    · have h1 := freshM_lk hf hz x.1 (lk_ne_of_mem hx)
      refine ⟨d, hd', h1.1, h1.2.1, ?_, ?_⟩
      · by_cases hall : ∀ j, j < k → lk (s.Q j) x.1 = none
        · rw [← (text k (Nat.le_of_lt (lt ho))).m2 x.1 hall]; exact h1.2.2
        · have hex : ∃ j, j < k ∧ lk (s.Q j) x.1 ≠ none := Classical.byContradiction fun hh => hall fun j hj => Classical.byContradiction fun hq => hh ⟨j, hj, hq⟩
          obtain ⟨j, hj, hq, hlast⟩ := last_of k hex
          have := (text k (Nat.le_of_lt (lt ho))).m1 j x.1 hj hq fun i hi hlt => Classical.byContradiction fun hh => hlast i hi hlt hh
          rw [h1.2.2] at this
          exact absurd this.symm hq
      · cases has : isAs o' with
        | false => rfl
        | true => rw [isAs_Q hs has] at hx; cases hx
    · rw [hdn] at hds; cases hds
    · rw [hQ] at hx; cases hx
  have own2 : ∀ (k : Nat) (o : Oper), l[k]? = some o → o.dst.isSome = true → ∀ x ∈ s.Q k, ∀ j, j < l.length → j ≠ k → lk (s.Q j) x.1 = none := by
    intro k o ho hds x hx j hj hne
    obtain ⟨d, hdd, h1, h2, h3, h4⟩ := own k o ho hds x hx
    refine Classical.byContradiction fun hq => ?_
    obtain ⟨y, hy, hyk⟩ := lk_ne_mem hq
    obtain ⟨oj, hoj, _⟩ := hst j hj
    cases hdj : oj.dst with
    | none =>
      have := (hstore j oj hoj hdj y hy).1
      rw [hyk, h3] at this
      cases this
    | some dj =>
      obtain ⟨d', hd', h5, h6, _⟩ := own j oj hoj (by rw [hdj]; rfl) y hy
      rw [hyk] at h5 h6
      have hdd' : d' = d := by omega
      subst hdd'
      rcases (drawOk_spec hd ho).2.2.2 with h7 | h7 | h7
      · rw [h4] at h7; cases h7
      · rw [hdd] at h7; cases h7
      · exact h7 j hj hne (by rw [hslot j oj hoj, hd', hdd])
  have raw1 : ∀ (k : Nat) (o : Oper) (r t : Nat), l[k]? = some o → slotD l r = some t → t ∈ looks l o → (r < k → edged o r = true) ∧ (k < r → ∀ o', l[r]? = some o' → edged o' k = true) := by
    intro k o r t ho hr ht
    exact ⟨fun hlt => (drawOk_spec hd ho).2.2.1 r hlt (meddle_raw ho hr ht), fun hlt o' ho' => (drawOk_spec hd ho').2.2.1 k hlt (meddle_war ho hr ht)⟩
  refine ⟨hst, text, ?_, ?_, ?_⟩
  · rintro k o r ho hrn (⟨t, hr, ht⟩ | ⟨key, hkey, hq⟩)
    · exact raw1 k o r t ho hr ht
    · obtain ⟨o', ho', hdo, _⟩ := hst k (lt ho)
      obtain rfl := uniq ho' ho
      have hw : keysAt mem0 (lk (s.E k)) (tmpsOf o'.op) = true ∧ clash (s.wr k) o' (s.R k) = true ∧ s.R k = rdKeys (lk (s.E k)) (tmpsOf o'.op) := by
        rcases hdo with ⟨_, h1, h2, h3, _⟩ | ⟨_, _, _, hR⟩
        · exact ⟨h1, h2, h3⟩
        · rw [hR] at hkey; cases hkey
      obtain ⟨hkeys, hcl, hR⟩ := hw
      have hkey' := hkey
      rw [hR] at hkey'
      obtain ⟨t, ht, hkt⟩ := List.mem_filterMap.1 hkey'
      obtain ⟨x, hx, rfl⟩ := lk_ne_mem hq
      obtain ⟨or', hor, _⟩ := hst r hrn
      cases hdr : or'.dst with
      | some d0 =>
        obtain ⟨d, hdd, h1, h2, h3, _⟩ := own r or' hor (by rw [hdr]; rfl) x hx
        rcases keysAt_spec hkeys t ht x.1 hkt with h4 | h4
        · rw [h3] at h4; cases h4
        · have : d = t := by omega
          subst this
          exact raw1 k o' r d ho (by rw [hslot r or' hor]; exact hdd) (by unfold looks; exact List.mem_append_left _ ht)
      | none =>
        obtain ⟨_, _, hck, _⟩ := hstore r or' hor hdr x hx
        refine ⟨fun hlt => ?_, fun hlt o2 ho2 => ?_⟩
        · have hmem := hwr k (Nat.le_of_lt (lt ho)) r or' hlt hor hdr x hx
          unfold clash at hcl
          rw [List.all_eq_true] at hcl
          have := hcl _ hmem
          simpa [hkey] using this
        · obtain rfl := uniq hor ho2
          have hmem := hrd r (Nat.le_of_lt hrn) k hlt x.1 hkey
          unfold clashK at hck
          rw [List.all_eq_true] at hck
          have := hck _ hmem
          simpa using this
  · rintro j k hj hk (⟨t, h1, h2⟩ | ⟨key, h1, h2⟩) hlt o ho
    · exact (drawOk_spec hd ho).2.2.1 k hlt (meddle_waw h1 h2)
    · obtain ⟨x, hx, rfl⟩ := lk_ne_mem h1
      obtain ⟨y, hy, hyx⟩ := lk_ne_mem h2
      obtain ⟨ok, hok, _⟩ := hst k hk
      cases hdk : ok.dst with
      | some d =>
        have := own2 k ok hok (by rw [hdk]; rfl) y hy j hj (by omega)
        rw [hyx] at this
        exact absurd this h1
      | none =>
        cases hdj : o.dst with
        | some d =>
          have := own2 j o ho (by rw [hdj]; rfl) x hx k hk (by omega)
          exact absurd this h2
        | none =>
          obtain ⟨_, hxR, _, hcl⟩ := hstore j o ho hdj x hx
          have hmem := hwr j (Nat.le_of_lt hj) k ok hlt hok hdk y hy
          unfold clash at hcl
          rw [List.all_eq_true] at hcl
          have := hcl _ hmem
          rw [hyx] at this
          simpa [hxR] using this
  · intro k o ho hds x hx
    obtain ⟨d, h1, h2, h3, h4, _⟩ := own k o ho hds x hx
    exact ⟨d, h1, h2, h3, h4, own2 k o ho hds x hx⟩
end Go.AM
