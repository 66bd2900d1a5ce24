/- Part AmS16 of the proof: own text. -/
import Derived.Test.YtknejocjkjpfmaaAmS15
set_option linter.all false
namespace Go.AM
variable {P : Program} {V : Nat → Prop} {w0 : World} {N : Nat}
variable {ty : Ty} {Γ : Gam}

theorem last_of {p : Nat → Prop} : ∀ (n : Nat), (∃ k, k < n ∧ p k) → ∃ k, k < n ∧ p k ∧ ∀ j, j < n → k < j → ¬ p j
  | 0, ⟨k, h, _⟩ => by omega
  | n + 1, h => by
    by_cases hn : p n
    · exact ⟨n, by omega, hn, fun j h1 h2 => by omega⟩
    · obtain ⟨k, hk, hp⟩ := h
      have hkn : k ≠ n := fun e => hn (e ▸ hp)
      obtain ⟨k', h1, h2, h3⟩ := last_of n ⟨k, by omega, hp⟩
      refine ⟨k', by omega, h2, fun j hj hlt => ?_⟩
      by_cases hjn : j = n
      · rw [hjn]; exact hn
      · exact h3 j (by omega) hlt
structure Inv (ops : List Oper) (env0 : List (Nat × AV)) (mem0 : List (Nat × Ct × Bool)) (A : Nat → AV) (Qm : Nat → List (Nat × Ct × Bool)) (S : Nat → Prop) (env : List (Nat × AV)) (mem : List (Nat × Ct × Bool)) : Prop where
  e1 : ∀ k t, S k → slotD ops k = some t → (∀ j, S j → k < j → slotD ops j ≠ some t) → lk env t = some (A k)
  e2 : ∀ t, (∀ k, S k → slotD ops k ≠ some t) → lk env t = lk env0 t
  m1 : ∀ k key, S k → lk (Qm k) key ≠ none → (∀ j, S j → k < j → lk (Qm j) key = none) → lk mem key = lk (Qm k) key
  m2 : ∀ key, (∀ k, S k → lk (Qm k) key = none) → lk mem key = lk mem0 key
section
variable {ops : List Oper} {env0 env env' : List (Nat × AV)} {mem0 mem mem' : List (Nat × Ct × Bool)} {A : Nat → AV} {Qm : Nat → List (Nat × Ct × Bool)} {S S' : Nat → Prop} {n : Nat}
theorem Inv.congr (h : Inv ops env0 mem0 A Qm S env mem) (hS : ∀ k, S k ↔ S' k) : Inv ops env0 mem0 A Qm S' env mem := by
  have : S = S' := funext fun k => propext (hS k)
  rw [← this]; exact h
theorem Inv.env_eq (hb : ∀ k, S k → k < n) (h : Inv ops env0 mem0 A Qm S env mem) (h' : Inv ops env0 mem0 A Qm S' env' mem') {t : Nat} (hs : ∀ r, slotD ops r = some t → (S r ↔ S' r)) : lk env t = lk env' t := by
  by_cases hx : ∃ r, r < n ∧ (S r ∧ slotD ops r = some t)
  · obtain ⟨r, hr, ⟨h1, h2⟩, h3⟩ := last_of n hx
    rw [h.e1 r t h1 h2 fun j hj hlt he => h3 j (hb j hj) hlt ⟨hj, he⟩, h'.e1 r t ((hs r h2).1 h1) h2 fun j hj hlt he => h3 j (hb j ((hs j he).2 hj)) hlt ⟨(hs j he).2 hj, he⟩]
  · rw [h.e2 t fun k hk he => hx ⟨k, hb k hk, hk, he⟩, h'.e2 t fun k hk he => hx ⟨k, hb k ((hs k he).2 hk), (hs k he).2 hk, he⟩]
theorem Inv.mem_eq (hb : ∀ k, S k → k < n) (h : Inv ops env0 mem0 A Qm S env mem) (h' : Inv ops env0 mem0 A Qm S' env' mem') {key : Nat} (hs : ∀ r, lk (Qm r) key ≠ none → (S r ↔ S' r)) : lk mem key = lk mem' key := by
  by_cases hx : ∃ r, r < n ∧ (S r ∧ lk (Qm r) key ≠ none)
  · obtain ⟨r, hr, ⟨h1, h2⟩, h3⟩ := last_of n hx
    rw [h.m1 r key h1 h2 fun j hj hlt => Classical.byContradiction fun he => h3 j (hb j hj) hlt ⟨hj, he⟩,
      h'.m1 r key ((hs r h2).1 h1) h2 fun j hj hlt => Classical.byContradiction fun he => h3 j (hb j ((hs j he).2 hj)) hlt ⟨(hs j he).2 hj, he⟩]
  · rw [h.m2 key fun k hk => Classical.byContradiction fun he => hx ⟨k, hb k hk, hk, he⟩, h'.m2 key fun k hk => Classical.byContradiction fun he => hx ⟨k, hb k ((hs k he).2 hk), (hs k he).2 hk, he⟩]
theorem lk_app {α : Type} : ∀ {l : List (Nat × α)} {r : List (Nat × α)} {k : Nat}, lk (l ++ r) k = (lk l k).or (lk r k)
  | [], _, _ => rfl
  | (j, x) :: l, r, k => by
    simp only [List.cons_append, lk]
    split
    · rfl
    · exact lk_app
def putE (d : Option Nat) (a : AV) (env : List (Nat × AV)) : List (Nat × AV) := match d with
  | some d => (d, a) :: env
  | none => env
theorem lk_putE {d : Option Nat} {a : AV} {env : List (Nat × AV)} {t : Nat} : lk (putE d a env) t = if d = some t then some a else lk env t := by
  cases d with
  | none => rfl
  | some d =>
    simp only [putE, lk, Option.some.injEq]
    by_cases h : t = d
    · subst h; simp
    · rw [if_neg h, if_neg fun e => h e.symm]
theorem Inv.step (h : Inv ops env0 mem0 A Qm S env mem) {k : Nat} (hn : ¬ S k) (hD : ∀ j t, S j → slotD ops j = some t → slotD ops k = some t → j < k) (hM : ∀ j key, S j → lk (Qm j) key ≠ none → lk (Qm k) key ≠ none → j < k)
    (he : lk env' = lk (putE (slotD ops k) (A k) env)) (hm : lk mem' = lk (Qm k ++ mem)) : Inv ops env0 mem0 A Qm (fun j => S j ∨ j = k) env' mem' := by
  constructor
  · rintro j t (hj | rfl) hjt hlast
    · have hk : slotD ops k ≠ some t := fun hk => hlast k (.inr rfl) (hD j t hj hjt hk) hk
      rw [he, lk_putE, if_neg hk]
      exact h.e1 j t hj hjt fun i hi hlt => hlast i (.inl hi) hlt
    · rw [he, lk_putE, if_pos hjt]
  · intro t ht
    rw [he, lk_putE, if_neg (ht k (.inr rfl))]
    exact h.e2 t fun j hj => ht j (.inl hj)
  · rintro j key (hj | rfl) hjk hlast
    · have hk : lk (Qm k) key = none := Classical.byContradiction fun hk => hk (hlast k (.inr rfl) (hM j key hj hjk hk))
      rw [hm, lk_app, hk, Option.none_or]
      exact h.m1 j key hj hjk fun i hi hlt => hlast i (.inl hi) hlt
    · rw [hm, lk_app]
      cases hq : lk (Qm j) key with
      | none => exact absurd hq hjk
      | some x => rfl
  · intro key hkey
    rw [hm, lk_app, hkey k (.inr rfl), Option.none_or]
    exact h.m2 key fun j hj => hkey j (.inl hj)
end

def wantedA (all : List Oper) (s : St) (g : Option (Nat × Bool)) : Option Bool := match aGuard all s g with
  | .no => some true
  | .tt t => some t
  | .off => some false
  | .bad => none
theorem wanted_ok (hty : TysOk P ty) (hΓ : GamOk P Γ) {all : List Oper} {o : Oper} {env : List (Nat × AV)} {mem : List (Nat × Ct × Bool)} {a : Act} {w : World} (hr : Rep V w0 N (lk env) (lk mem) a w) {t : Bool}
    (h : wantedA all ⟨lk env, lk mem⟩ o.guard = some t) : Region.wanted o (yielded all.toArray a.tmps) = t := by
  refine guard_ok (X := t = true) (X' := t = true) (Y := t = false) (Y' := t = false) hty hΓ hr ?_ (fun h hw => by rw [hw, h]) (fun h _ hw => by rw [hw, h]) (fun h _ hw => by rw [hw, h]) (fun h hw => by rw [hw, h])
  unfold wantedA at h
  split at h <;> simp_all [bindG, Brk]
structure Seqs where
  A : Nat → AV
  Q : Nat → List (Nat × Ct × Bool)
  R : Nat → List Nat
  E : Nat → List (Nat × AV)
  M : Nat → List (Nat × Ct × Bool)
  rd : Nat → NNs
  wr : Nat → NNs
/-- What an operation does, at its state of the text. -/
def DoAt (ty : Ty) (Γ : Gam) (ops : List Oper) (mem0 : List (Nat × Ct × Bool)) (s : Seqs) (k : Nat) (o : Oper) : Prop :=
  (wantedA ops ⟨lk (s.E k), lk (s.M k)⟩ o.guard = some true ∧ keysAt mem0 (lk (s.E k)) (tmpsOf o.op) = true ∧ clash (s.wr k) o (s.R k) = true ∧ s.R k = rdKeys (lk (s.E k)) (tmpsOf o.op) ∧
    ((∃ d, o.dst = some d ∧ (∃ p, aStep ty Γ ⟨lk (s.E k), lk (s.M k)⟩ d o.op = some ⟨p, s.A k, s.Q k⟩ ∧ p) ∧ freshM (lk (s.M k)) d (s.Q k) ∧ noFz (s.Q k)) ∨
     (o.dst = none ∧ ∃ t x y p key c, o.op = .store t x y ∧ aStore ty ⟨lk (s.E k), lk (s.M k)⟩ t x y = some (key, p, c) ∧ p ∧ (lk mem0 key).isSome = true ∧ clashK (s.rd k) o key = true ∧ s.Q k = [(key, c, false)]))) ∨
  (wantedA ops ⟨lk (s.E k), lk (s.M k)⟩ o.guard = some false ∧ (o.dst.isSome = true → s.A k = .v undef) ∧ s.Q k = [] ∧ s.R k = [])
def StepAt (ty : Ty) (Γ : Gam) (ops : List Oper) (mem0 : List (Nat × Ct × Bool)) (s : Seqs) (k : Nat) : Prop :=
  ∃ o, ops[k]? = some o ∧ DoAt ty Γ ops mem0 s k o ∧ lk (s.E (k + 1)) = lk (putE o.dst (s.A k) (s.E k)) ∧ lk (s.M (k + 1)) = lk (s.Q k ++ s.M k) ∧
    s.rd (k + 1) = (s.R k).map (fun x => (k, x)) ++ s.rd k ∧ s.wr (k + 1) = (if o.dst.isSome then [] else (s.Q k).map fun x => (k, x.1)) ++ s.wr k
theorem lk_gset {all : List Oper} {env : List (Nat × AV)} {m : Mem} {g : Option (Nat × Bool)} {t t' : Bool} (h : aGuard all ⟨lk env, m⟩ g = .tt t) (ht : t = t') : lk (gset all g t' ++ env) = lk env := by
  subst ht
  unfold aGuard at h
  split at h
  · cases h
  · rename_i j b
    split at h
    · rename_i sl hsl
      split at h
      · rename_i c hlk
        injection h with h
        funext k
        simp only [gset, slotOf, hsl, Option.getD_some, List.cons_append, List.nil_append, lk]
        split
        · rename_i hk
          subst hk
          rw [show lk env k = some (.v (.bool c)) from hlk]
          congr 3
          subst h
          cases c <;> cases b <;> rfl
        · rfl
      · cases h
      · cases h
    · cases h
theorem lk_putE_congr {env env' : List (Nat × AV)} {d : Option Nat} {a : AV} (h : lk env = lk env') : lk (putE d a env) = lk (putE d a env') := by
  funext k; rw [lk_putE, lk_putE, h]
def Chain (ty : Ty) (Γ : Gam) (ops : List Oper) (mem0 : List (Nat × Ct × Bool)) (K : List (Nat × AV) → List (Nat × Ct × Bool) → Prop) (i : Nat) (rd wr : NNs) (l : List Oper) (env : List (Nat × AV)) (mem : List (Nat × Ct × Bool)) : Prop :=
  ∃ s : Seqs, lk (s.E i) = lk env ∧ lk (s.M i) = lk mem ∧ s.rd i = rd ∧ s.wr i = wr ∧ (∀ k, i ≤ k → k < i + l.length → StepAt ty Γ ops mem0 s k) ∧
    ∃ env' mem', lk env' = lk (s.E (i + l.length)) ∧ lk mem' = lk (s.M (i + l.length)) ∧ K env' mem'
theorem chain_ok {ops : List Oper} {mem0 : List (Nat × Ct × Bool)} {K : List (Nat × AV) → List (Nat × Ct × Bool) → Prop} :
    ∀ (l : List Oper) (i : Nat) (rd wr : NNs) (env : List (Nat × AV)) (mem : List (Nat × Ct × Bool)), ops.drop i = l → awpD ty Γ ops mem0 K i rd wr l env mem → Chain ty Γ ops mem0 K i rd wr l env mem
  | [], i, rd, wr, env, mem, hl, h => ⟨⟨fun _ => .dead, fun _ => [], fun _ => [], fun _ => env, fun _ => mem, fun _ => rd, fun _ => wr⟩, rfl, rfl, rfl, rfl, fun k h1 h2 => absurd h2 (by simp; omega), env, mem, rfl, rfl, h⟩
  | o :: r, i, rd, wr, env, mem, hl, h => by
    have hoi : ops[i]? = some o := by
      have := congrArg (·[0]?) hl
      simpa using this
    have hdr : ops.drop (i + 1) = r := by rw [← List.drop_drop, hl]; rfl
    unfold awpD at h
    have hlen : i + (o :: r).length = i + 1 + r.length := by simp; omega
    have glue : ∀ (a : AV) (q : List (Nat × Ct × Bool)) (rs : List Nat) (wr' : NNs) (env2 : List (Nat × AV)), lk env2 = lk env → wr' = (if o.dst.isSome then [] else q.map fun x => (i, x.1)) ++ wr →
        awpD ty Γ ops mem0 K (i + 1) (rs.map (fun x => (i, x)) ++ rd) wr' r (putE o.dst a env2) (q ++ mem) →
        (∀ s : Seqs, s.A i = a → s.Q i = q → s.R i = rs → s.E i = env → s.M i = mem → s.rd i = rd → s.wr i = wr → DoAt ty Γ ops mem0 s i o) → Chain ty Γ ops mem0 K i rd wr (o :: r) env mem := by
      intro a q rs wr' env2 he hwr hk hdo
      obtain ⟨s, h1, h2, h3, h4, h5, env', mem', h6, h7, h8⟩ := chain_ok r (i + 1) _ _ _ _ hdr hk
      let s' : Seqs := ⟨fun k => if k = i then a else s.A k, fun k => if k = i then q else s.Q k, fun k => if k = i then rs else s.R k, fun k => if k = i then env else s.E k, fun k => if k = i then mem else s.M k, fun k => if k = i then rd else s.rd k, fun k => if k = i then wr else s.wr k⟩
      have e0 : ∀ k, k ≠ i → s'.A k = s.A k ∧ s'.Q k = s.Q k ∧ s'.R k = s.R k ∧ s'.E k = s.E k ∧ s'.M k = s.M k ∧ s'.rd k = s.rd k ∧ s'.wr k = s.wr k := fun k hk => ⟨if_neg hk, if_neg hk, if_neg hk, if_neg hk, if_neg hk, if_neg hk, if_neg hk⟩
      have ei : s'.A i = a ∧ s'.Q i = q ∧ s'.R i = rs ∧ s'.E i = env ∧ s'.M i = mem ∧ s'.rd i = rd ∧ s'.wr i = wr := ⟨if_pos rfl, if_pos rfl, if_pos rfl, if_pos rfl, if_pos rfl, if_pos rfl, if_pos rfl⟩
      obtain ⟨eA, eQ, eR, eE, eM, erd, ewr⟩ := ei
      refine ⟨s', by rw [eE], by rw [eM], erd, ewr, ?_, env', mem', ?_, ?_, h8⟩
      · intro k hk1 hk2
        by_cases hki : k = i
        · subst hki
          obtain ⟨_, _, _, f4, f5, f6, f7⟩ := e0 (k + 1) (by omega)
          refine ⟨o, hoi, hdo s' eA eQ eR eE eM erd ewr, ?_, ?_, ?_, ?_⟩
          · rw [f4, h1, eA, eE]; exact lk_putE_congr he
          · rw [f5, h2, eQ, eM]
          · rw [f6, h3, eR, erd]
          · rw [f7, h4, eQ, ewr, hwr]
        · obtain ⟨o', ho', g1, g2, g3, g4, g5⟩ := h5 k (by omega) (by rw [hlen] at hk2; omega)
          obtain ⟨f1, f2, f3, f4, f5, f6, f7⟩ := e0 k hki
          obtain ⟨_, _, _, f4', f5', f6', f7'⟩ := e0 (k + 1) (by omega)
          refine ⟨o', ho', ?_, ?_, ?_, ?_, ?_⟩
          · unfold DoAt at g1 ⊢
            rw [f1, f2, f3, f4, f5, f6, f7]; exact g1
          · rw [f4', f1, f4]; exact g2
          · rw [f5', f2, f5]; exact g3
          · rw [f6', f3, f6]; exact g4
          · rw [f7', f2, f7]; exact g5
      · rw [hlen, (e0 (i + 1 + r.length) (by omega)).2.2.2.1]; exact h6
      · rw [hlen, (e0 (i + 1 + r.length) (by omega)).2.2.2.2.1]; exact h7
    have does : ∀ (env2 : List (Nat × AV)), lk env2 = lk env → wantedA ops ⟨lk env, lk mem⟩ o.guard = some true → dOne ty Γ mem0 i o rd wr env2 mem (fun rd wr env mem => awpD ty Γ ops mem0 K (i + 1) rd wr r env mem) → Chain ty Γ ops mem0 K i rd wr (o :: r) env mem := by
      intro env2 he hw hx
      obtain ⟨hkeys, hx⟩ := hx
      simp only [Bool.and_eq_true] at hkeys
      rw [he] at hkeys
      split at hx
      · rename_i d hd
        unfold bindO at hx
        split at hx
        · rename_i out hs
          obtain ⟨hpre, ⟨hf, hz⟩, hk⟩ := hx
          rw [he] at hs hk
          refine glue out.av out.mem _ wr env2 he (by simp [hd]) (by rw [hd]; exact hk) fun s hA hQ hR hE hM hrd hwr => .inl ?_
          refine ⟨by rw [hE, hM]; exact hw, by rw [hE]; exact hkeys.1, by rw [hwr, hR]; exact hkeys.2, by rw [hR, hE], .inl ⟨d, hd, ?_, ?_, ?_⟩⟩
          · rw [hE, hM, hA, hQ]; exact ⟨out.pre, hs, hpre⟩
          · rw [hM, hQ]; exact hf
          · rw [hQ]; exact hz
        · exact hx.elim
      · rename_i t x y hd hop
        unfold bindS at hx
        split at hx
        · rename_i key p c hs
          obtain ⟨hpre, hcl, hk⟩ := hx
          simp only [Bool.and_eq_true] at hcl
          rw [he] at hs hk
          refine glue .dead [(key, c, false)] _ ((i, key) :: wr) env2 he (by simp [hd]) (by rw [hd]; exact hk) fun s hA hQ hR hE hM hrd hwr => .inl ?_
          refine ⟨by rw [hE, hM]; exact hw, by rw [hE]; exact hkeys.1, by rw [hwr, hR]; exact hkeys.2, by rw [hR, hE], .inr ⟨hd, t, x, y, p, key, c, hop, ?_, hpre, hcl.1, by rw [hrd]; exact hcl.2, hQ⟩⟩
          rw [hE, hM]; exact hs
        · exact hx.elim
      · exact hx.elim
    have skips : ∀ (env2 : List (Nat × AV)), lk env2 = lk env → wantedA ops ⟨lk env, lk mem⟩ o.guard = some false → awpD ty Γ ops mem0 K (i + 1) rd wr r (skipE o.dst env2) mem → Chain ty Γ ops mem0 K i rd wr (o :: r) env mem := by
      intro env2 he hw hx
      have hpe : skipE o.dst env2 = putE o.dst (.v undef) env2 := by cases o.dst <;> rfl
      rw [hpe] at hx
      exact glue (.v undef) [] [] wr env2 he (by simp) hx fun s hA hQ hR hE hM hrd hwr => .inr ⟨by rw [hE, hM]; exact hw, fun _ => hA, hQ, hR⟩
    cases hg : aGuard ops ⟨lk env, lk mem⟩ o.guard with
    | no => rw [hg] at h; exact does env rfl (by simp [wantedA, hg]) h
    | off => rw [hg] at h; exact skips env rfl (by simp [wantedA, hg]) h
    | bad => rw [hg] at h; exact h.elim
    | tt t =>
      rw [hg] at h
      cases t with
      | true => exact does _ (lk_gset hg rfl) (by simp [wantedA, hg]) (h.1 rfl)
      | false => exact skips _ (lk_gset hg rfl) (by simp [wantedA, hg]) (h.2 rfl)
end Go.AM
