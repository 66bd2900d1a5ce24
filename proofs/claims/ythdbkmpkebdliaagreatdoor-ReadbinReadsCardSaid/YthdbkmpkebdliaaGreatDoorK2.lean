/- Part 2 of the proof: own text. -/
import Derived.Laws.StructEq
import Derived.Test.YthdbkmpkebdliaaGreatDoorK1
set_option linter.all false
set_option maxHeartbeats 20000000
namespace Go.AM
variable [Lay]
variable {P : Program} {V : Nat → Prop} {w0 : World} {N : Nat}
variable {ty : Ty} {Γ : Gam}

theorem last_of {p : Nat → Prop} : ∀ (n : Nat), (∃ k, k < n ∧ p k) → ∃ k, k < n ∧ p k ∧ ∀ j, j < n → k < j → ¬ p j
  | 0, ⟨k, h, _⟩ => by omega
  | n + 1, h => by
    by_cases hn : p n
    · exact ⟨n, by omega, hn, fun j h1 h2 => by omega⟩
    · obtain ⟨k, hk, hp⟩ := h
      have hkn : k ≠ n := fun e => hn (e ▸ hp)
      obtain ⟨k', h1, h2, h3⟩ := last_of n ⟨k, by omega, hp⟩
      refine ⟨k', by omega, h2, fun j hj hlt => ?_⟩
      by_cases hjn : j = n
      · rw [hjn]; exact hn
      · exact h3 j (by omega) hlt
structure Inv (ops : List Oper) (env0 : List (Nat × AV)) (mem0 : List (Nat × Ct × Bool)) (A : Nat → AV) (Qm : Nat → List (Nat × Ct × Bool)) (S : Nat → Prop) (env : List (Nat × AV)) (mem : List (Nat × Ct × Bool)) : Prop where
  e1 : ∀ k t, S k → slotD ops k = some t → (∀ j, S j → k < j → slotD ops j ≠ some t) → lk env t = some (A k)
  e2 : ∀ t, (∀ k, S k → slotD ops k ≠ some t) → lk env t = lk env0 t
  m1 : ∀ k key, S k → lk (Qm k) key ≠ none → (∀ j, S j → k < j → lk (Qm j) key = none) → lk mem key = lk (Qm k) key
  m2 : ∀ key, (∀ k, S k → lk (Qm k) key = none) → lk mem key = lk mem0 key
section
variable {ops : List Oper} {env0 env env' : List (Nat × AV)} {mem0 mem mem' : List (Nat × Ct × Bool)} {A : Nat → AV} {Qm : Nat → List (Nat × Ct × Bool)} {S S' : Nat → Prop} {n : Nat}
theorem Inv.congr (h : Inv ops env0 mem0 A Qm S env mem) (hS : ∀ k, S k ↔ S' k) : Inv ops env0 mem0 A Qm S' env mem := by
  have : S = S' := funext fun k => propext (hS k)
  rw [← this]; exact h
theorem Inv.env_eq (hb : ∀ k, S k → k < n) (h : Inv ops env0 mem0 A Qm S env mem) (h' : Inv ops env0 mem0 A Qm S' env' mem') {t : Nat} (hs : ∀ r, slotD ops r = some t → (S r ↔ S' r)) : lk env t = lk env' t := by
  by_cases hx : ∃ r, r < n ∧ (S r ∧ slotD ops r = some t)
  · obtain ⟨r, hr, ⟨h1, h2⟩, h3⟩ := last_of n hx
    rw [h.e1 r t h1 h2 fun j hj hlt he => h3 j (hb j hj) hlt ⟨hj, he⟩, h'.e1 r t ((hs r h2).1 h1) h2 fun j hj hlt he => h3 j (hb j ((hs j he).2 hj)) hlt ⟨(hs j he).2 hj, he⟩]
  · rw [h.e2 t fun k hk he => hx ⟨k, hb k hk, hk, he⟩, h'.e2 t fun k hk he => hx ⟨k, hb k ((hs k he).2 hk), (hs k he).2 hk, he⟩]
theorem Inv.mem_eq (hb : ∀ k, S k → k < n) (h : Inv ops env0 mem0 A Qm S env mem) (h' : Inv ops env0 mem0 A Qm S' env' mem') {key : Nat} (hs : ∀ r, lk (Qm r) key ≠ none → (S r ↔ S' r)) : lk mem key = lk mem' key := by
  by_cases hx : ∃ r, r < n ∧ (S r ∧ lk (Qm r) key ≠ none)
  · obtain ⟨r, hr, ⟨h1, h2⟩, h3⟩ := last_of n hx
    rw [h.m1 r key h1 h2 fun j hj hlt => Classical.byContradiction fun he => h3 j (hb j hj) hlt ⟨hj, he⟩,
      h'.m1 r key ((hs r h2).1 h1) h2 fun j hj hlt => Classical.byContradiction fun he => h3 j (hb j ((hs j he).2 hj)) hlt ⟨(hs j he).2 hj, he⟩]
  · rw [h.m2 key fun k hk => Classical.byContradiction fun he => hx ⟨k, hb k hk, hk, he⟩, h'.m2 key fun k hk => Classical.byContradiction fun he => hx ⟨k, hb k ((hs k he).2 hk), (hs k he).2 hk, he⟩]
theorem lk_app {α : Type} : ∀ {l : List (Nat × α)} {r : List (Nat × α)} {k : Nat}, lk (l ++ r) k = (lk l k).or (lk r k)
  | [], _, _ => rfl
  | (j, x) :: l, r, k => by
    simp only [List.cons_append, lk]
    split
    · rfl
    · exact lk_app
def putE (d : Option Nat) (a : AV) (env : List (Nat × AV)) : List (Nat × AV) := match d with
  | some d => (d, a) :: env
  | none => env
theorem lk_putE {d : Option Nat} {a : AV} {env : List (Nat × AV)} {t : Nat} : lk (putE d a env) t = if d = some t then some a else lk env t := by
  cases d with
  | none => rfl
  | some d =>
    simp only [putE, lk, Option.some.injEq]
    by_cases h : t = d
    · subst h; simp
    · rw [if_neg h, if_neg fun e => h e.symm]
theorem Inv.step (h : Inv ops env0 mem0 A Qm S env mem) {k : Nat} (hn : ¬ S k) (hD : ∀ j t, S j → slotD ops j = some t → slotD ops k = some t → j < k) (hM : ∀ j key, S j → lk (Qm j) key ≠ none → lk (Qm k) key ≠ none → j < k)
    (he : lk env' = lk (putE (slotD ops k) (A k) env)) (hm : lk mem' = lk (Qm k ++ mem)) : Inv ops env0 mem0 A Qm (fun j => S j ∨ j = k) env' mem' := by
  constructor
  · rintro j t (hj | rfl) hjt hlast
    · have hk : slotD ops k ≠ some t := fun hk => hlast k (.inr rfl) (hD j t hj hjt hk) hk
      rw [he, lk_putE, if_neg hk]
      exact h.e1 j t hj hjt fun i hi hlt => hlast i (.inl hi) hlt
    · rw [he, lk_putE, if_pos hjt]
  · intro t ht
    rw [he, lk_putE, if_neg (ht k (.inr rfl))]
    exact h.e2 t fun j hj => ht j (.inl hj)
  · rintro j key (hj | rfl) hjk hlast
    · have hk : lk (Qm k) key = none := Classical.byContradiction fun hk => hk (hlast k (.inr rfl) (hM j key hj hjk hk))
      rw [hm, lk_app, hk, Option.none_or]
      exact h.m1 j key hj hjk fun i hi hlt => hlast i (.inl hi) hlt
    · rw [hm, lk_app]
      cases hq : lk (Qm j) key with
      | none => exact absurd hq hjk
      | some x => rfl
  · intro key hkey
    rw [hm, lk_app, hkey k (.inr rfl), Option.none_or]
    exact h.m2 key fun j hj => hkey j (.inl hj)
end

def wantedA (all : List Oper) (s : St) (g : Option (Nat × Bool)) : Option Bool := match aGuard all s g with
  | .no => some true
  | .tt t => some t
  | .off => some false
  | .bad => none
theorem wanted_ok (hty : TysOk P ty) (hΓ : Gk P Γ) {all : List Oper} {o : Oper} {env : List (Nat × AV)} {mem : List (Nat × Ct × Bool)} {a : Act} {w : World} (hr : Rep V w0 N (lk env) (lk mem) a w) {t : Bool}
    (h : wantedA all ⟨lk env, lk mem⟩ o.guard = some t) : Region.wanted o (yielded all.toArray a.tmps) = t := by
  refine guard_ok (X := t = true) (X' := t = true) (Y := t = false) (Y' := t = false) hty hΓ hr ?_ (fun h hw => by rw [hw, h]) (fun h _ hw => by rw [hw, h]) (fun h _ hw => by rw [hw, h]) (fun h hw => by rw [hw, h])
  unfold wantedA at h
  split at h <;> simp_all [Bg, Brk]
structure Seqs where
  A : Nat → AV
  Q : Nat → List (Nat × Ct × Bool)
  R : Nat → List Nat
  E : Nat → List (Nat × AV)
  M : Nat → List (Nat × Ct × Bool)
  rd : Nat → NNs
  wr : Nat → NNs
def DoAt (ty : Ty) (Γ : Gam) (ops : List Oper) (mem0 : List (Nat × Ct × Bool)) (s : Seqs) (k : Nat) (o : Oper) : Prop :=
  (wantedA ops ⟨lk (s.E k), lk (s.M k)⟩ o.guard = some true ∧ keysAt mem0 (lk (s.E k)) (tmpsOf o.op) = true ∧ clash (s.wr k) o (s.R k) = true ∧ s.R k = rdKeys (lk (s.E k)) (tmpsOf o.op) ∧
    ((∃ d, o.dst = some d ∧ (∃ p, aStep ty Γ ⟨lk (s.E k), lk (s.M k)⟩ d o.op = some ⟨p, s.A k, s.Q k⟩ ∧ p) ∧ Fr (lk (s.M k)) d (s.Q k) ∧ noFz (s.Q k)) ∨
     (o.dst = none ∧ ∃ t x y p key c, o.op = .store t x y ∧ aStore ty ⟨lk (s.E k), lk (s.M k)⟩ t x y = some (key, p, c) ∧ p ∧ clashK (s.rd k) o key = true ∧ s.Q k = [(key, c, false)]))) ∨
  (wantedA ops ⟨lk (s.E k), lk (s.M k)⟩ o.guard = some false ∧ (o.dst.isSome = true → s.A k = .v undef) ∧ s.Q k = [] ∧ s.R k = [])
def StepAt (ty : Ty) (Γ : Gam) (ops : List Oper) (mem0 : List (Nat × Ct × Bool)) (s : Seqs) (k : Nat) : Prop :=
  ∃ o, ops[k]? = some o ∧ DoAt ty Γ ops mem0 s k o ∧ lk (s.E (k + 1)) = lk (putE o.dst (s.A k) (s.E k)) ∧ lk (s.M (k + 1)) = lk (s.Q k ++ s.M k) ∧
    s.rd (k + 1) = (s.R k).map (fun x => (k, x)) ++ s.rd k ∧ s.wr (k + 1) = (if o.dst.isSome then [] else (s.Q k).map fun x => (k, x.1)) ++ s.wr k
theorem lk_gset {all : List Oper} {env : List (Nat × AV)} {m : Mem} {g : Option (Nat × Bool)} {t t' : Bool} (h : aGuard all ⟨lk env, m⟩ g = .tt t) (ht : t = t') : lk (gset all g t' ++ env) = lk env := by
  subst ht
  unfold aGuard at h
  split at h
  · cases h
  · rename_i j b
    split at h
    · rename_i sl hsl
      split at h
      · rename_i c hlk
        injection h with h
        funext k
        simp only [gset, slotOf, hsl, Option.getD_some, List.cons_append, List.nil_append, lk]
        split
        · rename_i hk
          subst hk
          rw [show lk env k = some (.v (.bool c)) from hlk]
          congr 3
          subst h
          cases c <;> cases b <;> rfl
        · rfl
      · cases h
      · cases h
    · cases h
theorem lk_putE_congr {env env' : List (Nat × AV)} {d : Option Nat} {a : AV} (h : lk env = lk env') : lk (putE d a env) = lk (putE d a env') := by
  funext k; rw [lk_putE, lk_putE, h]
def Chain (ty : Ty) (Γ : Gam) (ops : List Oper) (mem0 : List (Nat × Ct × Bool)) (K : List (Nat × AV) → List (Nat × Ct × Bool) → Prop) (i : Nat) (rd wr : NNs) (l : List Oper) (env : List (Nat × AV)) (mem : List (Nat × Ct × Bool)) : Prop :=
  ∃ s : Seqs, lk (s.E i) = lk env ∧ lk (s.M i) = lk mem ∧ s.rd i = rd ∧ s.wr i = wr ∧ (∀ k, i ≤ k → k < i + l.length → StepAt ty Γ ops mem0 s k) ∧
    ∃ env' mem', lk env' = lk (s.E (i + l.length)) ∧ lk mem' = lk (s.M (i + l.length)) ∧ K env' mem'
theorem chain_ok {ops : List Oper} {mem0 : List (Nat × Ct × Bool)} {K : List (Nat × AV) → List (Nat × Ct × Bool) → Prop} :
    ∀ (l : List Oper) (i : Nat) (rd wr : NNs) (env : List (Nat × AV)) (mem : List (Nat × Ct × Bool)), ops.drop i = l → awpD ty Γ ops mem0 K i rd wr l env mem → Chain ty Γ ops mem0 K i rd wr l env mem
  | [], i, rd, wr, env, mem, hl, h => ⟨⟨fun _ => .dead, fun _ => [], fun _ => [], fun _ => env, fun _ => mem, fun _ => rd, fun _ => wr⟩, rfl, rfl, rfl, rfl, fun k h1 h2 => absurd h2 (by simp; omega), env, mem, rfl, rfl, h⟩
  | o :: r, i, rd, wr, env, mem, hl, h => by
    have hoi : ops[i]? = some o := by
      have := congrArg (·[0]?) hl
      simpa using this
    have hdr : ops.drop (i + 1) = r := by rw [← List.drop_drop, hl]; rfl
    unfold awpD at h
    have hlen : i + (o :: r).length = i + 1 + r.length := by simp; omega
    have glue : ∀ (a : AV) (q : List (Nat × Ct × Bool)) (rs : List Nat) (wr' : NNs) (env2 : List (Nat × AV)), lk env2 = lk env → wr' = (if o.dst.isSome then [] else q.map fun x => (i, x.1)) ++ wr →
        awpD ty Γ ops mem0 K (i + 1) (rs.map (fun x => (i, x)) ++ rd) wr' r (putE o.dst a env2) (q ++ mem) →
        (∀ s : Seqs, s.A i = a → s.Q i = q → s.R i = rs → s.E i = env → s.M i = mem → s.rd i = rd → s.wr i = wr → DoAt ty Γ ops mem0 s i o) → Chain ty Γ ops mem0 K i rd wr (o :: r) env mem := by
      intro a q rs wr' env2 he hwr hk hdo
      obtain ⟨s, h1, h2, h3, h4, h5, env', mem', h6, h7, h8⟩ := chain_ok r (i + 1) _ _ _ _ hdr hk
      let s' : Seqs := ⟨fun k => if k = i then a else s.A k, fun k => if k = i then q else s.Q k, fun k => if k = i then rs else s.R k, fun k => if k = i then env else s.E k, fun k => if k = i then mem else s.M k, fun k => if k = i then rd else s.rd k, fun k => if k = i then wr else s.wr k⟩
      have e0 : ∀ k, k ≠ i → s'.A k = s.A k ∧ s'.Q k = s.Q k ∧ s'.R k = s.R k ∧ s'.E k = s.E k ∧ s'.M k = s.M k ∧ s'.rd k = s.rd k ∧ s'.wr k = s.wr k := fun k hk => ⟨if_neg hk, if_neg hk, if_neg hk, if_neg hk, if_neg hk, if_neg hk, if_neg hk⟩
      have ei : s'.A i = a ∧ s'.Q i = q ∧ s'.R i = rs ∧ s'.E i = env ∧ s'.M i = mem ∧ s'.rd i = rd ∧ s'.wr i = wr := ⟨if_pos rfl, if_pos rfl, if_pos rfl, if_pos rfl, if_pos rfl, if_pos rfl, if_pos rfl⟩
      obtain ⟨eA, eQ, eR, eE, eM, erd, ewr⟩ := ei
      refine ⟨s', by rw [eE], by rw [eM], erd, ewr, ?_, env', mem', ?_, ?_, h8⟩
      · intro k hk1 hk2
        by_cases hki : k = i
        · subst hki
          obtain ⟨_, _, _, f4, f5, f6, f7⟩ := e0 (k + 1) (by omega)
          refine ⟨o, hoi, hdo s' eA eQ eR eE eM erd ewr, ?_, ?_, ?_, ?_⟩
          · rw [f4, h1, eA, eE]; exact lk_putE_congr he
          · rw [f5, h2, eQ, eM]
          · rw [f6, h3, eR, erd]
          · rw [f7, h4, eQ, ewr, hwr]
        · obtain ⟨o', ho', g1, g2, g3, g4, g5⟩ := h5 k (by omega) (by rw [hlen] at hk2; omega)
          obtain ⟨f1, f2, f3, f4, f5, f6, f7⟩ := e0 k hki
          obtain ⟨_, _, _, f4', f5', f6', f7'⟩ := e0 (k + 1) (by omega)
          refine ⟨o', ho', ?_, ?_, ?_, ?_, ?_⟩
          · unfold DoAt at g1 ⊢
            rw [f1, f2, f3, f4, f5, f6, f7]; exact g1
          · rw [f4', f1, f4]; exact g2
          · rw [f5', f2, f5]; exact g3
          · rw [f6', f3, f6]; exact g4
          · rw [f7', f2, f7]; exact g5
      · rw [hlen, (e0 (i + 1 + r.length) (by omega)).2.2.2.1]; exact h6
      · rw [hlen, (e0 (i + 1 + r.length) (by omega)).2.2.2.2.1]; exact h7
    have does : ∀ (env2 : List (Nat × AV)), lk env2 = lk env → wantedA ops ⟨lk env, lk mem⟩ o.guard = some true → dOne ty Γ mem0 i o rd wr env2 mem (fun rd wr env mem => awpD ty Γ ops mem0 K (i + 1) rd wr r env mem) → Chain ty Γ ops mem0 K i rd wr (o :: r) env mem := by
      intro env2 he hw hx
      obtain ⟨hkeys, hx⟩ := hx
      simp only [Bool.and_eq_true] at hkeys
      rw [he] at hkeys
      split at hx
      · rename_i d hd
        unfold bindO at hx
        split at hx
        · rename_i out hs
          obtain ⟨hpre, ⟨hf, hz⟩, hk⟩ := hx
          rw [he] at hs hk
          refine glue out.av out.mem _ wr env2 he (by simp [hd]) (by rw [hd]; exact hk) fun s hA hQ hR hE hM hrd hwr => .inl ?_
          refine ⟨by rw [hE, hM]; exact hw, by rw [hE]; exact hkeys.1, by rw [hwr, hR]; exact hkeys.2, by rw [hR, hE], .inl ⟨d, hd, ?_, ?_, ?_⟩⟩
          · rw [hE, hM, hA, hQ]; exact ⟨out.pre, hs, hpre⟩
          · rw [hM, hQ]; exact hf
          · rw [hQ]; exact hz
        · exact hx.elim
      · rename_i t x y hd hop
        unfold bindS at hx
        split at hx
        · rename_i key p c hs
          obtain ⟨hpre, hcl, hk⟩ := hx
          rw [he] at hs hk
          refine glue .dead [(key, c, false)] _ ((i, key) :: wr) env2 he (by simp [hd]) (by rw [hd]; exact hk) fun s hA hQ hR hE hM hrd hwr => .inl ?_
          refine ⟨by rw [hE, hM]; exact hw, by rw [hE]; exact hkeys.1, by rw [hwr, hR]; exact hkeys.2, by rw [hR, hE], .inr ⟨hd, t, x, y, p, key, c, hop, ?_, hpre, by rw [hrd]; exact hcl, hQ⟩⟩
          rw [hE, hM]; exact hs
        · exact hx.elim
      · exact hx.elim
    have skips : ∀ (env2 : List (Nat × AV)), lk env2 = lk env → wantedA ops ⟨lk env, lk mem⟩ o.guard = some false → awpD ty Γ ops mem0 K (i + 1) rd wr r (skipE o.dst env2) mem → Chain ty Γ ops mem0 K i rd wr (o :: r) env mem := by
      intro env2 he hw hx
      have hpe : skipE o.dst env2 = putE o.dst (.v undef) env2 := by cases o.dst <;> rfl
      rw [hpe] at hx
      exact glue (.v undef) [] [] wr env2 he (by simp) hx fun s hA hQ hR hE hM hrd hwr => .inr ⟨by rw [hE, hM]; exact hw, fun _ => hA, hQ, hR⟩
    cases hg : aGuard ops ⟨lk env, lk mem⟩ o.guard with
    | no => rw [hg] at h; exact does env rfl (by simp [wantedA, hg]) h
    | off => rw [hg] at h; exact skips env rfl (by simp [wantedA, hg]) h
    | bad => rw [hg] at h; exact h.elim
    | tt t =>
      rw [hg] at h
      cases t with
      | true => exact does _ (lk_gset hg rfl) (by simp [wantedA, hg]) (h.1 rfl)
      | false => exact skips _ (lk_gset hg rfl) (by simp [wantedA, hg]) (h.2 rfl)
end Go.AM
namespace Go.AM
variable [Lay]
variable {P : Program} {V : Nat → Prop} {w0 : World} {N : Nat}
variable {ty : Ty} {Γ : Gam}

theorem edged_on {o : Oper} {j : Nat} (h : edged o j = true) : ∃ e ∈ o.after, Region.binds .any e = true ∧ e.on = j := by
  unfold edged at h
  obtain ⟨e, he, hb⟩ := Array.any_eq_true'.1 h
  simp only [Bool.and_eq_true, beq_iff_eq] at hb
  exact ⟨e, he, hb⟩
theorem drawOk_spec {ops : List Oper} (h : drawOk ops = true) {i : Nat} {o : Oper} (ho : ops[i]? = some o) :
    (∀ e ∈ o.after, Region.binds .any e = true → e.on < i) ∧ (o.dst.isSome = true ∨ isSt o = true) ∧ (∀ j, j < i → meddle ops i j = true → edged o j = true) ∧
    (isAs o = true ∨ o.dst = none ∨ ∀ j, j < ops.length → j ≠ i → slotD ops j ≠ o.dst) := by
  unfold drawOk at h
  rw [List.all_eq_true] at h
  have hi : i < ops.length := (List.getElem?_eq_some_iff.1 ho).1
  have h1 := h i (by simpa using hi)
  rw [ho] at h1
  simp only [drawOp, Bool.and_eq_true] at h1
  obtain ⟨⟨⟨h1, h2⟩, h3⟩, h4⟩ := h1
  refine ⟨fun e he hb => ?_, by simpa using h2, fun j hj hm => ?_, ?_⟩
  · have := Array.all_eq_true_iff_forall_mem.1 h1 e he
    simpa [hb] using this
  · rw [List.all_eq_true] at h3
    have := h3 j (by simpa using hj)
    simpa [hm] using this
  · rw [Bool.or_eq_true, Bool.or_eq_true] at h4
    rcases h4 with (h4 | h4) | h4
    · exact .inl h4
    · exact .inr (.inl (by simpa using h4))
    · refine .inr (.inr fun j hj hne => ?_)
      rw [List.all_eq_true] at h4
      have := h4 j (by simpa using hj)
      simpa [hne] using this
theorem wpAny_mono_fuel {ops : Array Oper} {Q : Exit → Act → World → Prop} {md : Region.Mode} {fuel : Nat} {listed : Array Bool} {a : Act} {w : World} (hne : Region.ready md ops listed ≠ [])
    (h : ∀ i ∈ Region.ready md ops listed, wpOp P ops Q i (wpAny P md ops Q fuel (listed.setIfInBounds i true)) a w) : wpAny P md ops Q (fuel + 1) listed a w := ⟨fun h0 => absurd h0 hne, h⟩
theorem getD_set {listed : Array Bool} {i j : Nat} (d : Bool) (hi : i < listed.size) : (listed.setIfInBounds i true).getD j d = if j = i then true else listed.getD j d := by
  by_cases h : i = j
  · subst h; simp [hi]
  · rw [getD_set_ne d h, if_neg (fun e => h e.symm)]
theorem count_set {p p' : Nat → Bool} {k : Nat} (hk : p k = true) (h : ∀ i, p' i = (p i && decide (i ≠ k))) : ∀ n, k < n → ((List.range n).countP p') + 1 = (List.range n).countP p := by
  have low : ∀ n, n ≤ k → (List.range n).countP p' = (List.range n).countP p := fun n hn => by
    apply List.countP_congr
    intro i hi
    have : i ≠ k := by have := List.mem_range.1 hi; omega
    simp [h, this]
  intro n
  induction n with
  | zero => intro h; omega
  | succ n ih =>
    intro hn
    rw [List.range_succ, List.countP_append, List.countP_append]
    by_cases hkn : k = n
    · subst hkn
      rw [low k (Nat.le_refl _)]
      simp [h, hk]
    · have := ih (by omega)
      have hpn : p' n = p n := by simp [h, show n ≠ k by omega]
      simp only [List.countP_singleton, hpn]
      omega
end Go.AM
namespace Go.AM
variable [Lay]
variable {P : Program} {V : Nat → Prop} {w0 : World} {N : Nat}
variable {ty : Ty} {Γ : Gam}
theorem mem_tmpsOf {op : Op} {t : Nat} : Operand.tmp t ∈ op.operands → t ∈ tmpsOf op := fun h => by
  unfold tmpsOf
  exact List.mem_filterMap.2 ⟨.tmp t, by simpa using h, rfl⟩
theorem keysAt_spec {mem0 : List (Nat × Ct × Bool)} {e : Env} : ∀ {l : List Nat}, keysAt mem0 e l = true → ∀ t ∈ l, ∀ key, (e t).bind keyOn = some key → (lk mem0 key).isSome = true ∨ key / 16 = t
  | [], _, t, ht => by cases ht
  | x :: l, h, t, ht => by
    simp only [keysAt, Bool.and_eq_true] at h
    rcases List.mem_cons.1 ht with rfl | ht
    · intro key hk
      have h1 := h.1
      unfold keyAt at h1
      rw [hk] at h1
      simpa [Bool.or_eq_true] using h1
    · exact keysAt_spec h.2 t ht
theorem mem_rdKeys {e : Env} {l : List Nat} {t key : Nat} (ht : t ∈ l) (hk : (e t).bind keyOn = some key) : key ∈ rdKeys e l := List.mem_filterMap.2 ⟨t, ht, hk⟩
theorem freshM_lk {m : Mem} {d : Nat} : ∀ {q : List (Nat × Ct × Bool)}, Fr m d q → noFz q → ∀ key, lk q key ≠ none → 16 * d ≤ key ∧ key < 16 * d + 16 ∧ m key = none
  | [], _, _, key, h => absurd rfl h
  | (k, c, fr) :: r, h, hz, key, hk => by
    simp only [lk] at hk
    by_cases hkk : key = k
    · subst hkk
      rcases h.1 with h1 | h1
      · rw [hz.1] at h1; cases h1
      · exact h1
    · rw [if_neg hkk] at hk
      exact freshM_lk h.2 hz.2 key hk
theorem freshM_of {m : Mem} {d : Nat} : ∀ {q : List (Nat × Ct × Bool)}, (∀ x ∈ q, 16 * d ≤ x.1 ∧ x.1 < 16 * d + 16 ∧ m x.1 = none) → Fr m d q
  | [], _ => trivial
  | (k, c, fr) :: r, h => ⟨.inr (h (k, c, fr) (List.mem_cons_self ..)), freshM_of fun x hx => h x (List.mem_cons_of_mem _ hx)⟩
theorem freshM_all {m : Mem} {d : Nat} : ∀ {q : List (Nat × Ct × Bool)}, Fr m d q → noFz q → ∀ x ∈ q, 16 * d ≤ x.1 ∧ x.1 < 16 * d + 16
  | [], _, _, x, h => by cases h
  | (k, c, fr) :: r, h, hz, x, hx => by
    rcases List.mem_cons.1 hx with rfl | hx
    · rcases h.1 with h1 | h1
      · rw [hz.1] at h1; cases h1
      · exact ⟨h1.1, h1.2.1⟩
    · exact freshM_all h.2 hz.2 x hx
theorem lk_ne_of_mem {α : Type} : ∀ {l : List (Nat × α)} {x : Nat × α}, x ∈ l → lk l x.1 ≠ none
  | (k, y) :: r, x, hx => by
    simp only [lk]
    by_cases h : x.1 = k
    · simp [h]
    · rw [if_neg h]
      rcases List.mem_cons.1 hx with rfl | hx
      · exact absurd rfl h
      · exact lk_ne_of_mem hx
theorem aStore_congr {s s' : St} {t : TypeId} {x y : Operand} (hx : Agree s s' x) (hy : Agree s s' y) : aStore ty s t x y = aStore ty s' t x y := by
  unfold aStore
  rw [← hx.1, ← hy.1]
  cases hk : opd s x <;> simp only
  rename_i key off
  have hm := hx.2 key (by rw [hk]; rfl)
  cases hv : valOf (opd s y) <;> simp only [hm]
theorem isAs_Q {s : St} {d : Nat} {o : Oper} {p : Prop} {a : AV} {q : List (Nat × Ct × Bool)} (h : aStep ty Γ s d o.op = some ⟨p, a, q⟩) (ho : isAs o = true) : q = [] := by
  unfold isAs at ho
  split at ho
  · rename_i x hop
    rw [hop] at h
    simp only [aStep, Option.some.injEq, Out.mk.injEq] at h
    exact h.2.2.symm
  · cases ho
theorem hits_some {t : Nat} {l : List Nat} (h : t ∈ l) : hits (some t) l = true := by simpa [hits] using h
theorem meddle_raw {ops : List Oper} {i j : Nat} {t : Nat} {o : Oper} (hi : ops[i]? = some o) (hj : slotD ops j = some t) (ht : t ∈ looks ops o) : meddle ops i j = true := by
  unfold meddle
  rw [hj, show looksAt ops i = looks ops o by simp [looksAt, hi], hits_some ht]
  rfl
theorem meddle_war {ops : List Oper} {i j : Nat} {t : Nat} {o : Oper} (hj : ops[j]? = some o) (hi : slotD ops i = some t) (ht : t ∈ looks ops o) : meddle ops i j = true := by
  unfold meddle
  rw [hi, show looksAt ops j = looks ops o by simp [looksAt, hj], hits_some ht]
  simp
theorem meddle_waw {ops : List Oper} {i j : Nat} {t : Nat} (hi : slotD ops i = some t) (hj : slotD ops j = some t) : meddle ops i j = true := by
  unfold meddle
  rw [hi, hj]
  simp

structure Facts (ty : Ty) (Γ : Gam) (l : List Oper) (env0 : List (Nat × AV)) (mem0 : List (Nat × Ct × Bool)) (s : Seqs) : Prop where
  step : ∀ k, k < l.length → StepAt ty Γ l mem0 s k
  text : ∀ k, k ≤ l.length → Inv l env0 mem0 s.A s.Q (fun j => j < k) (s.E k) (s.M k)
  raw : ∀ k o r, l[k]? = some o → r < l.length → (∃ t, slotD l r = some t ∧ t ∈ looks l o) ∨ (∃ key ∈ s.R k, lk (s.Q r) key ≠ none) → (r < k → edged o r = true) ∧ (k < r → ∀ o', l[r]? = some o' → edged o' k = true)
  waw : ∀ j k, j < l.length → k < l.length → ((∃ t, slotD l j = some t ∧ slotD l k = some t) ∨ ∃ key, lk (s.Q j) key ≠ none ∧ lk (s.Q k) key ≠ none) → k < j → ∀ o, l[j]? = some o → edged o k = true
  own : ∀ k o, l[k]? = some o → o.dst.isSome = true → ∀ x ∈ s.Q k, ∃ d : Nat, o.dst = some d ∧ 16 * d ≤ x.1 ∧ x.1 < 16 * d + 16 ∧ lk mem0 x.1 = none ∧ ∀ j, j < l.length → j ≠ k → lk (s.Q j) x.1 ≠ none → ∀ o', l[j]? = some o' → edged o' k = true
theorem lk_ne_mem {α : Type} {l : List (Nat × α)} {k : Nat} (h : lk l k ≠ none) : ∃ x ∈ l, x.1 = k := by
  cases hl : lk l k with
  | none => exact absurd hl h
  | some y => exact ⟨(k, y), lk_mem hl, rfl⟩
theorem aStore_key {s : St} {t : TypeId} {x y : Operand} {key : Nat} {p : Prop} {c : Ct} (h : aStore ty s t x y = some (key, p, c)) : ∃ tm av, x = .tmp tm ∧ s.e tm = some av ∧ keyOn av = some key := by
  unfold aStore at h
  split at h
  · rename_i key' off v hx hy
    split at h
    · split at h
      · obtain ⟨⟨p', c'⟩, h3, h4⟩ := Option.map_eq_some_iff.1 h
        cases h4
        cases x with
        | tmp tm =>
          simp only [opd] at hx
          cases hv : s.e tm with
          | none => rw [hv] at hx; cases hx
          | some av => rw [hv] at hx; simp only [Option.getD_some] at hx; exact ⟨tm, av, rfl, hv, by rw [hx]; rfl⟩
        | const v => cases hx
        | _ => cases hx
      · cases h
    · cases h
  · cases h
theorem facts_ok {l : List Oper} {env0 : List (Nat × AV)} {mem0 : List (Nat × Ct × Bool)} {s : Seqs} (hd : drawOk l = true) (hE : lk (s.E 0) = lk env0) (hM : lk (s.M 0) = lk mem0) (hst : ∀ k, k < l.length → StepAt ty Γ l mem0 s k) : Facts ty Γ l env0 mem0 s := by
  have hslot : ∀ (k : Nat) (o : Oper), l[k]? = some o → slotD l k = o.dst := fun k o ho => by simp [slotD, ho]
  have uniq : ∀ {k : Nat} {o o' : Oper}, l[k]? = some o → l[k]? = some o' → o = o' := fun h1 h2 => by rw [h1] at h2; injection h2
  have lt : ∀ {k : Nat} {o : Oper}, l[k]? = some o → k < l.length := fun h => (List.getElem?_eq_some_iff.1 h).1
  have text : ∀ k, k ≤ l.length → Inv l env0 mem0 s.A s.Q (fun j => j < k) (s.E k) (s.M k) := by
    intro k
    induction k with
    | zero =>
      intro _
      have h1 : Inv l env0 mem0 s.A s.Q (fun _ => False) (s.E 0) (s.M 0) := ⟨fun _ _ h => h.elim, fun t _ => by rw [hE], fun _ _ h => h.elim, fun key _ => by rw [hM]⟩
      exact h1.congr fun j => by simp
    | succ k ih =>
      intro hk
      obtain ⟨o, ho, hdo, he, hm, _⟩ := hst k hk
      refine (Inv.step (ih (by omega)) (k := k) (by omega) (fun j t hj _ _ => hj) (fun j key hj _ _ => hj) (by rw [hslot k o ho]; exact he) hm).congr fun j => by omega
  have hrd : ∀ k, k ≤ l.length → ∀ j, j < k → ∀ key ∈ s.R j, (j, key) ∈ s.rd k := by
    intro k
    induction k with
    | zero => intro _ j hj; omega
    | succ k ih =>
      intro hk j hj key hkey
      obtain ⟨o, ho, hdo, he, hm, h1, h2⟩ := hst k hk
      rw [h1]
      by_cases hjk : j = k
      · subst hjk; exact List.mem_append_left _ (List.mem_map.2 ⟨key, hkey, rfl⟩)
      · exact List.mem_append_right _ (ih (by omega) j (by omega) key hkey)
  have hwr : ∀ k, k ≤ l.length → ∀ (j : Nat) (o : Oper), j < k → l[j]? = some o → o.dst = none → ∀ x ∈ s.Q j, (j, x.1) ∈ s.wr k := by
    intro k
    induction k with
    | zero => intro _ j o hj; omega
    | succ k ih =>
      intro hk j o' hj ho' hdn x hx
      obtain ⟨o, ho, hdo, he, hm, h1, h2⟩ := hst k hk
      rw [h2]
      by_cases hjk : j = k
      · subst hjk
        obtain rfl := uniq ho ho'
        rw [hdn]
        exact List.mem_append_left _ (List.mem_map.2 ⟨x, hx, rfl⟩)
      · exact List.mem_append_right _ (ih (by omega) j o' (by omega) ho' hdn x hx)
  -- what a store writes stood at the region's start
  have hstore : ∀ (k : Nat) (o : Oper), l[k]? = some o → o.dst = none → ∀ x ∈ s.Q k, x.1 ∈ s.R k ∧ clashK (s.rd k) o x.1 = true ∧ clash (s.wr k) o (s.R k) = true := by
    intro k o ho hdn x hx
    obtain ⟨o', ho', hdo, _⟩ := hst k (lt ho)
    obtain rfl := uniq ho' ho
    rcases hdo with ⟨_, hkeys, hcl, hR, ⟨d, hd', _⟩ | ⟨_, t, y, z, p, key, c, hop, hs, hp, hck, hQ⟩⟩ | ⟨_, _, hQ, _⟩
    · rw [hdn] at hd'; cases hd'
    · rw [hQ] at hx
      simp only [List.mem_singleton] at hx
      subst hx
      refine ⟨?_, hck, hcl⟩
      obtain ⟨tm, av, rfl, hav, hko⟩ := aStore_key hs
      rw [hR]
      exact mem_rdKeys (t := tm) (mem_tmpsOf (by rw [hop]; simp [Op.operands])) (by simp only at hav; rw [hav]; exact hko)
    · rw [hQ] at hx; cases hx
  have own : ∀ (k : Nat) (o : Oper), l[k]? = some o → o.dst.isSome = true → ∀ x ∈ s.Q k, ∃ d : Nat, o.dst = some d ∧ 16 * d ≤ x.1 ∧ x.1 < 16 * d + 16 ∧ lk mem0 x.1 = none ∧ isAs o = false ∧ ∀ j, j < k → lk (s.Q j) x.1 = none := by
    intro k o ho hds x hx
    obtain ⟨o', ho', hdo, _⟩ := hst k (lt ho)
    obtain rfl := uniq ho' ho
    rcases hdo with ⟨_, hkeys, hcl, hR, ⟨d, hd', ⟨p, hs, hp⟩, hf, hz⟩ | ⟨hdn, _⟩⟩ | ⟨_, _, hQ, _⟩
    · have h1 := freshM_lk hf hz x.1 (lk_ne_of_mem hx)
      have hall : ∀ j, j < k → lk (s.Q j) x.1 = none := by
        refine Classical.byContradiction fun hall => ?_
        · have hex : ∃ j, j < k ∧ lk (s.Q j) x.1 ≠ none := Classical.byContradiction fun hh => hall fun j hj => Classical.byContradiction fun hq => hh ⟨j, hj, hq⟩
          obtain ⟨j, hj, hq, hlast⟩ := last_of k hex
          have := (text k (Nat.le_of_lt (lt ho))).m1 j x.1 hj hq fun i hi hlt => Classical.byContradiction fun hh => hlast i hi hlt hh
          rw [h1.2.2] at this
          exact absurd this.symm hq
      refine ⟨d, hd', h1.1, h1.2.1, ?_, ?_, hall⟩
      · rw [← (text k (Nat.le_of_lt (lt ho))).m2 x.1 hall]; exact h1.2.2
      · cases has : isAs o' with
        | false => rfl
        | true => rw [isAs_Q hs has] at hx; cases hx
    · rw [hdn] at hds; cases hds
    · rw [hQ] at hx; cases hx
  have raw1 : ∀ (k : Nat) (o : Oper) (r t : Nat), l[k]? = some o → slotD l r = some t → t ∈ looks l o → (r < k → edged o r = true) ∧ (k < r → ∀ o', l[r]? = some o' → edged o' k = true) := by
    intro k o r t ho hr ht
    exact ⟨fun hlt => (drawOk_spec hd ho).2.2.1 r hlt (meddle_raw ho hr ht), fun hlt o' ho' => (drawOk_spec hd ho').2.2.1 k hlt (meddle_war ho hr ht)⟩
  have own2 : ∀ (k : Nat) (o : Oper), l[k]? = some o → o.dst.isSome = true → ∀ x ∈ s.Q k, ∀ j, j < l.length → j ≠ k → lk (s.Q j) x.1 ≠ none → ∀ o', l[j]? = some o' → edged o' k = true := by
    intro k o ho hds x hx j hj hne hq oj hoj
    obtain ⟨d, hdd, h1, h2, h3, h4, h8⟩ := own k o ho hds x hx
    obtain ⟨y, hy, hyk⟩ := lk_ne_mem hq
    cases hdj : oj.dst with
    | none =>
      obtain ⟨hyR, _, _⟩ := hstore j oj hoj hdj y hy
      obtain ⟨oj', hoj', hdo, _⟩ := hst j hj
      obtain rfl := uniq hoj' hoj
      have hw : keysAt mem0 (lk (s.E j)) (tmpsOf oj'.op) = true ∧ s.R j = rdKeys (lk (s.E j)) (tmpsOf oj'.op) := by
        rcases hdo with ⟨_, g1, g2, g3, _⟩ | ⟨_, _, _, hR⟩
        · exact ⟨g1, g3⟩
        · rw [hR] at hyR; cases hyR
      rw [hw.2] at hyR
      obtain ⟨t, ht, hkt⟩ := List.mem_filterMap.1 hyR
      rw [hyk] at hkt
      rcases keysAt_spec hw.1 t ht x.1 hkt with h5 | h5
      · rw [h3] at h5; cases h5
      · have hdt : d = t := by omega
        subst hdt
        have hr := raw1 j oj' k d hoj (by rw [hslot k o ho]; exact hdd) (by unfold looks; exact List.mem_append_left _ ht)
        rcases Nat.lt_or_ge k j with hlt | hge
        · exact hr.1 hlt
        · exact absurd (h8 j (by omega)) hq
    | some dj =>
      obtain ⟨d', hd', h5, h6, _⟩ := own j oj hoj (by rw [hdj]; rfl) y hy
      rw [hyk] at h5 h6
      have hdd' : d' = d := by omega
      subst hdd'
      rcases (drawOk_spec hd ho).2.2.2 with h7 | h7 | h7
      · rw [h4] at h7; cases h7
      · rw [hdd] at h7; cases h7
      · exact absurd (by rw [hslot j oj hoj, hd', hdd]) (h7 j hj hne)
  refine ⟨hst, text, ?_, ?_, ?_⟩
  · rintro k o r ho hrn (⟨t, hr, ht⟩ | ⟨key, hkey, hq⟩)
    · exact raw1 k o r t ho hr ht
    · obtain ⟨o', ho', hdo, _⟩ := hst k (lt ho)
      obtain rfl := uniq ho' ho
      have hw : keysAt mem0 (lk (s.E k)) (tmpsOf o'.op) = true ∧ clash (s.wr k) o' (s.R k) = true ∧ s.R k = rdKeys (lk (s.E k)) (tmpsOf o'.op) := by
        rcases hdo with ⟨_, h1, h2, h3, _⟩ | ⟨_, _, _, hR⟩
        · exact ⟨h1, h2, h3⟩
        · rw [hR] at hkey; cases hkey
      obtain ⟨hkeys, hcl, hR⟩ := hw
      have hkey' := hkey
      rw [hR] at hkey'
      obtain ⟨t, ht, hkt⟩ := List.mem_filterMap.1 hkey'
      obtain ⟨x, hx, rfl⟩ := lk_ne_mem hq
      obtain ⟨or', hor, _⟩ := hst r hrn
      cases hdr : or'.dst with
      | some d0 =>
        obtain ⟨d, hdd, h1, h2, h3, _⟩ := own r or' hor (by rw [hdr]; rfl) x hx
        rcases keysAt_spec hkeys t ht x.1 hkt with h4 | h4
        · rw [h3] at h4; cases h4
        · have : d = t := by omega
          subst this
          exact raw1 k o' r d ho (by rw [hslot r or' hor]; exact hdd) (by unfold looks; exact List.mem_append_left _ ht)
      | none =>
        obtain ⟨_, hck, _⟩ := hstore r or' hor hdr x hx
        refine ⟨fun hlt => ?_, fun hlt o2 ho2 => ?_⟩
        · have hmem := hwr k (Nat.le_of_lt (lt ho)) r or' hlt hor hdr x hx
          unfold clash at hcl
          rw [List.all_eq_true] at hcl
          have := hcl _ hmem
          simpa [hkey] using this
        · obtain rfl := uniq hor ho2
          have hmem := hrd r (Nat.le_of_lt hrn) k hlt x.1 hkey
          unfold clashK at hck
          rw [List.all_eq_true] at hck
          have := hck _ hmem
          simpa using this
  · rintro j k hj hk (⟨t, h1, h2⟩ | ⟨key, h1, h2⟩) hlt o ho
    · exact (drawOk_spec hd ho).2.2.1 k hlt (meddle_waw h1 h2)
    · obtain ⟨x, hx, rfl⟩ := lk_ne_mem h1
      obtain ⟨y, hy, hyx⟩ := lk_ne_mem h2
      obtain ⟨ok, hok, _⟩ := hst k hk
      cases hdk : ok.dst with
      | some d =>
        exact own2 k ok hok (by rw [hdk]; rfl) y hy j hj (by omega) (by rw [hyx]; exact h1) o ho
      | none =>
        cases hdj : o.dst with
        | some d =>
          obtain ⟨_, _, _, _, _, _, h8⟩ := own j o ho (by rw [hdj]; rfl) x hx
          exact absurd (h8 k hlt) h2
        | none =>
          obtain ⟨hxR, _, hcl⟩ := hstore j o ho hdj x hx
          have hmem := hwr j (Nat.le_of_lt hj) k ok hlt hok hdk y hy
          unfold clash at hcl
          rw [List.all_eq_true] at hcl
          have := hcl _ hmem
          rw [hyx] at this
          simpa [hxR] using this
  · intro k o ho hds x hx
    obtain ⟨d, h1, h2, h3, h4, _, _⟩ := own k o ho hds x hx
    exact ⟨d, h1, h2, h3, h4, own2 k o ho hds x hx⟩
end Go.AM
namespace Go.AM
variable [Lay]
variable {P : Program} {V : Nat → Prop} {w0 : World} {N : Nat}
variable {ty : Ty} {Γ : Gam}
theorem drawOk_ok (hm : P.follows .mixedOrders = true) (hty : TysOk P ty) (hΓ : Gk P Γ) : DrawOk P ty Γ := by
  intro V w0 N id ops Qp env0 mem0 a0 w0' hN hd hawp hrep
  refine wp_region_any hm ?_
  obtain ⟨s, hE0, hM0, -, -, hst, env', mem', hE', hM', hK⟩ := chain_ok ops.toList 0 [] [] env0 mem0 rfl hawp
  simp only [Nat.zero_add] at hst hE' hM'
  let l := ops.toList
  have hf : Facts ty Γ l env0 mem0 s := facts_ok hd hE0 hM0 fun k hk => hst k (Nat.zero_le _) hk
  have hlen : l.length = ops.size := by simp [l]
  have hslot : ∀ (k : Nat) (o : Oper), l[k]? = some o → slotD l k = o.dst := fun k o ho => by simp [slotD, ho]
  have uniq : ∀ {k : Nat} {o o' : Oper}, l[k]? = some o → l[k]? = some o' → o = o' := fun h1 h2 => by rw [h1] at h2; injection h2
  have main : ∀ (fuel : Nat) (listed : Array Bool) (env : List (Nat × AV)) (mem : List (Nat × Ct × Bool)) (a : Act) (w : World), listed.size = l.length →
      (∀ j o, l[j]? = some o → listed.getD j false = true → ∀ e ∈ o.after, Region.binds .any e = true → listed.getD e.on false = true) →
      Inv l env0 mem0 s.A s.Q (fun k => listed.getD k false = true) env mem → Rep V w0 N (lk env) (lk mem) a w → (List.range l.length).countP (fun i => !listed.getD i false) ≤ fuel → wpAny P .any ops (lift V w0 N Qp) fuel listed a w := by
    intro fuel
    have hbd : ∀ (listed : Array Bool), listed.size = l.length → ∀ k, listed.getD k false = true → k < l.length := fun listed hs k hk => by
      rcases Nat.lt_or_ge k listed.size with h | h
      · omega
      · simp [Array.getElem?_eq_none h] at hk
    have done : ∀ (listed : Array Bool) (env : List (Nat × AV)) (mem : List (Nat × Ct × Bool)) (a : Act) (w : World), listed.size = l.length → (∀ i, i < l.length → listed.getD i false = true) →
        Inv l env0 mem0 s.A s.Q (fun k => listed.getD k false = true) env mem → Rep V w0 N (lk env) (lk mem) a w → lift V w0 N Qp .normal a w := by
      intro listed env mem a w hs hall hI hr
      have hIn : Inv l env0 mem0 s.A s.Q (fun k => k < l.length) env mem := hI.congr fun k => ⟨fun h => hbd listed hs k h, fun h => hall k h⟩
      have he : lk env = lk env' := by
        rw [hE']; funext t
        exact Inv.env_eq (n := l.length) (fun k h => h) hIn (hf.text l.length (Nat.le_refl _)) fun r _ => Iff.rfl
      have hmm : lk mem = lk mem' := by
        rw [hM']; funext key
        exact Inv.mem_eq (n := l.length) (fun k h => h) hIn (hf.text l.length (Nat.le_refl _)) fun r _ => Iff.rfl
      rw [he, hmm] at hr
      exact ⟨env', mem', hK, hr⟩
    have noReady : ∀ (listed : Array Bool), listed.size = l.length → (∀ i, i < l.length → listed.getD i false = true) → Region.ready .any ops listed = [] := by
      intro listed hs hall
      apply List.eq_nil_iff_forall_not_mem.2
      intro i hi
      obtain ⟨h1, o, ho, _⟩ := mem_ready.1 hi
      have hio : i < ops.size := (Array.getElem?_eq_some_iff.1 ho).1
      have h2 := hall i (by omega)
      have : i < listed.size := by omega
      simp [this] at h1 h2
      rw [h1] at h2; cases h2
    induction fuel with
    | zero =>
      intro listed env mem a w hs hcl hI hr hfu
      have hall : ∀ i, i < l.length → listed.getD i false = true := fun i hi => by
        have := List.countP_eq_zero.1 (Nat.le_zero.1 hfu) i (by simpa using hi)
        simpa using this
      exact ⟨noReady listed hs hall, done listed env mem a w hs hall hI hr⟩
    | succ fuel ih =>
      intro listed env mem a w hs hcl hI hr hfu
      by_cases hall : ∀ i, i < l.length → listed.getD i false = true
      · have h0 := noReady listed hs hall
        exact ⟨fun _ => done listed env mem a w hs hall hI hr, by rw [h0]; simp⟩
      · have hex : ∃ i, i < l.length ∧ listed.getD i false = false := Classical.byContradiction fun h => hall fun i hi => by
          cases hv : listed.getD i false with
          | true => rfl
          | false => exact absurd ⟨i, hi, hv⟩ h
        have hmin : ∃ i, i < l.length ∧ listed.getD i false = false ∧ ∀ j, j < i → listed.getD j false = true := by
          obtain ⟨i, hi⟩ := hex
          induction i using Nat.strongRecOn with
          | ind i ih2 =>
            by_cases hj : ∃ j, j < i ∧ listed.getD j false = false
            · obtain ⟨j, h1, h2⟩ := hj
              exact ih2 j h1 ⟨by omega, h2⟩
            · refine ⟨i, hi.1, hi.2, fun j hj2 => ?_⟩
              cases hv : listed.getD j false with
              | true => rfl
              | false => exact absurd ⟨j, hj2, hv⟩ hj
        obtain ⟨i0, hi0, hl0, hb0⟩ := hmin
        have dd : ∀ i, i < l.length → ∀ d d', listed.getD i d = listed.getD i d' := fun i hi d d' => by
          have : i < listed.size := by omega
          simp [this]
        refine wpAny_mono_fuel (fun h0 => ?_) fun i hi => ?_
        · have ho : l[i0]? = some l[i0] := List.getElem?_eq_getElem hi0
          have : i0 ∈ Region.ready .any ops listed := mem_ready.2 ⟨by rw [dd i0 hi0 true false]; exact hl0, l[i0], by simpa [l] using ho, fun e he hb => hb0 _ ((drawOk_spec hd ho).1 e he hb)⟩
          rw [h0] at this
          cases this
        · obtain ⟨h1, o, ho, h2⟩ := mem_ready.1 hi
          have ho' : l[i]? = some o := by simpa [l] using ho
          have hil : i < l.length := (List.getElem?_eq_some_iff.1 ho').1
          have hli : listed.getD i false = false := by rw [dd i hil false true]; exact h1
          obtain ⟨o2, ho2, hdo, _⟩ := hf.step i hil
          obtain rfl := uniq ho' ho2
          have hIt := hf.text i (Nat.le_of_lt hil)
          -- who writes what this operation reads stands as in the text
          have hsame : ∀ r, r < l.length → ((∃ t, slotD l r = some t ∧ t ∈ looks l o) ∨ (∃ key ∈ s.R i, lk (s.Q r) key ≠ none)) → (listed.getD r false = true ↔ r < i) := fun r hr hc => by
            obtain ⟨c1, c2⟩ := hf.raw i o r ho' hr hc
            by_cases hri : r = i
            · subst hri; simp only [hli]; constructor
              · intro h; cases h
              · intro h; omega
            · constructor
              · intro h
                refine Classical.byContradiction fun hge => ?_
                obtain ⟨or', hor⟩ : ∃ or', l[r]? = some or' := ⟨_, List.getElem?_eq_getElem hr⟩
                obtain ⟨e, he, hb, hon⟩ := edged_on (c2 (by omega) or' hor)
                have := hcl r or' hor h e he hb
                rw [hon, hli] at this
                cases this
              · intro h
                obtain ⟨e, he, hb, hon⟩ := edged_on (c1 h)
                exact hon ▸ h2 e he hb
          have hb1 : ∀ k, listed.getD k false = true → k < l.length := hbd listed hs
          have henv : ∀ t ∈ looks l o, lk env t = lk (s.E i) t := fun t ht => by
            refine Inv.env_eq (n := l.length) hb1 hI hIt fun r hr => ?_
            by_cases hrn : r < l.length
            · exact hsame r hrn (.inl ⟨t, hr, ht⟩)
            · simp [slotD, List.getElem?_eq_none (by omega : l.length ≤ r)] at hr
          have hmem : ∀ key ∈ s.R i, lk mem key = lk (s.M i) key := fun key hk => by
            have hI2 : Inv l env0 mem0 s.A s.Q (fun k => k < l.length ∧ listed.getD k false = true) env mem := hI.congr fun k => ⟨fun h => ⟨hb1 k h, h⟩, fun h => h.2⟩
            refine Inv.mem_eq (n := l.length) (fun k h => h.1) hI2 hIt fun r hr => ?_
            by_cases hrn : r < l.length
            · rw [← hsame r hrn (.inr ⟨key, hk, hr⟩)]
              exact ⟨fun h => h.2, fun h => ⟨hrn, h⟩⟩
            · exact ⟨fun h => absurd h.1 hrn, fun h => absurd (Nat.lt_trans h hil) hrn⟩
          have htm : ∀ t ∈ tmpsOf o.op, t ∈ looks l o := fun t ht => by unfold looks; exact List.mem_append_left _ ht
          have hguard : wantedA l ⟨lk env, lk mem⟩ o.guard = wantedA l ⟨lk (s.E i), lk (s.M i)⟩ o.guard := by
            unfold wantedA aGuard
            cases hg : o.guard with
            | none => rfl
            | some jb =>
              obtain ⟨j, b⟩ := jb
              simp only
              cases hsl : (l[j]?).bind (·.dst) with
              | none => rfl
              | some sl =>
                have : sl ∈ looks l o := by unfold looks; rw [hg]; simp [hsl]
                simp only [henv sl this]
          have hagree : s.R i = rdKeys (lk (s.E i)) (tmpsOf o.op) → ∀ x ∈ o.op.operands, Agree ⟨lk env, lk mem⟩ ⟨lk (s.E i), lk (s.M i)⟩ x := by
            intro hR x hx
            cases x with
            | tmp t =>
              have ht := mem_tmpsOf hx
              have het := henv t (htm t ht)
              refine ⟨by simp only [opd]; rw [het], fun key hk => ?_⟩
              have hk' : ((lk (s.E i)) t).bind keyOn = some key := by
                simp only [opd] at hk
                rw [het] at hk
                cases hv : lk (s.E i) t with
                | none => rw [hv] at hk; cases hk
                | some av => rw [hv] at hk; simpa using hk
              exact hmem key (by rw [hR]; exact mem_rdKeys ht hk')
            | const v => exact ⟨rfl, fun key hk => by cases hk⟩
            | _ => exact ⟨rfl, fun key hk => by cases hk⟩
          have hwaw : ∀ j, listed.getD j false = true → ((∃ t, slotD l j = some t ∧ slotD l i = some t) ∨ ∃ key, lk (s.Q j) key ≠ none ∧ lk (s.Q i) key ≠ none) → j < i := fun j hj hc => by
            have hjn := hb1 j hj
            refine Classical.byContradiction fun hge => ?_
            have hji : j ≠ i := fun h => by rw [h, hli] at hj; cases hj
            obtain ⟨oj, hoj⟩ : ∃ oj, l[j]? = some oj := ⟨_, List.getElem?_eq_getElem hjn⟩
            obtain ⟨e, he, hb, hon⟩ := edged_on (hf.waw j i hjn hil hc (by omega) oj hoj)
            have := hcl j oj hoj hj e he hb
            rw [hon, hli] at this
            cases this
          have hrec : ∀ (env2 : List (Nat × AV)) (mem2 : List (Nat × Ct × Bool)) (a2 : Act) (w2 : World), lk env2 = lk (putE (slotD l i) (s.A i) env) → lk mem2 = lk (s.Q i ++ mem) → Rep V w0 N (lk env2) (lk mem2) a2 w2 → wpAny P .any ops (lift V w0 N Qp) fuel (listed.setIfInBounds i true) a2 w2 := by
            intro env2 mem2 a2 w2 he hmm hr2
            have hsz : i < listed.size := by omega
            refine ih _ env2 mem2 a2 w2 (by simp [hs]) (fun j oj hoj hj e hee hbb => ?_) ?_ hr2 ?_
            · rw [getD_set false hsz] at hj ⊢
              split
              · rfl
              · split at hj
                · rename_i hji
                  subst hji
                  obtain rfl := uniq hoj ho'
                  exact h2 e hee hbb
                · exact hcl j oj hoj hj e hee hbb
            · refine (Inv.step hI (k := i) (by simp [hli]) (fun j t hj h3 h4 => hwaw j hj (.inl ⟨t, h3, h4⟩)) (fun j key hj h3 h4 => hwaw j hj (.inr ⟨key, h3, h4⟩)) he hmm).congr fun k => ?_
              rw [getD_set false hsz]
              by_cases hki : k = i
              · subst hki; simp
              · simp [hki]
            · have := count_set (p := fun j => !listed.getD j false) (p' := fun j => !(listed.setIfInBounds i true).getD j false) (k := i) (by simp only [hli]; rfl) (fun j => by
                rw [getD_set false hsz]
                by_cases hji : j = i
                · subst hji; simp
                · simp [hji]) l.length hil
              omega
          unfold wpOp
          have hopi : ops[i]? = some o := by simpa [l] using ho'
          simp only [hopi]
          have hw : ∀ t, wantedA l ⟨lk env, lk mem⟩ o.guard = some t → Region.wanted o (yielded ops a.tmps) = t := fun t ht => by
            have := wanted_ok (o := o) hty hΓ hr ht
            simpa [l] using this
          have hdN : ∀ d, o.dst = some d → d < N := hN o (by simpa [l] using List.mem_of_getElem? ho')
          rcases hdo with ⟨hwt, hkeys, hcla, hR, ⟨d, hdst, ⟨p, hs1, hp⟩, hf1, hz1⟩ | ⟨hdst, t, x, y, p, key, c, hop, hs1, hp, hck, hQ⟩⟩ | ⟨hwt, hA, hQ, hR⟩
          · rw [if_pos (hw true (hguard.trans hwt))]
            have hs2 : aStep ty Γ ⟨lk env, lk mem⟩ d o.op = some ⟨p, s.A i, s.Q i⟩ := (aStep_congr (hagree hR)).trans hs1
            have hf2 : Fr (lk mem) d (s.Q i) := freshM_of fun x hx => by
              have h3 := freshM_all hf1 hz1 x hx
              obtain ⟨d', hd', _, _, h4, h5⟩ := hf.own i o ho' (by rw [hdst]; rfl) x hx
              refine ⟨h3.1, h3.2, ?_⟩
              rw [hI.m2 x.1 fun j hj => Classical.byContradiction fun hq => by
                have hjn := hb1 j hj
                obtain ⟨oj, hoj⟩ : ∃ oj, l[j]? = some oj := ⟨_, List.getElem?_eq_getElem hjn⟩
                obtain ⟨e, he, hb, hon⟩ := edged_on (h5 j hjn (fun h => by rw [h, hli] at hj; cases hj) hq oj hoj)
                have := hcl j oj hoj hj e he hb
                rw [hon, hli] at this
                cases this]
              exact h4
            refine .inl ?_
            obtain ⟨β, hb⟩ := hr
            obtain ⟨dst, op, tt, pos, after, g⟩ := o
            simp only at hdst hs2
            subst hdst
            refine step_ok (d := some d) (tt := tt) (pos := pos) (after := after) (g := g) hb hty hΓ hs2 hp hf2 _ _ fun v w' β' hb' hv => ?_
            exact hrec _ _ _ _ (by rw [hslot i _ ho']; rfl) rfl ⟨β', hb'.put (hdN d rfl) hv⟩
          · rw [if_pos (hw true (hguard.trans hwt))]
            have hag := hagree hR
            rw [hop] at hag
            have hs2 : aStore ty ⟨lk env, lk mem⟩ t x y = some (key, p, c) := (aStore_congr (hag x (by simp [Op.operands])) (hag y (by simp [Op.operands]))).trans hs1
            refine .inl ?_
            obtain ⟨β, hb⟩ := hr
            obtain ⟨dst, op, tt, pos, after, g⟩ := o
            simp only at hdst hop
            subst hdst hop
            obtain ⟨w', hrun, hb'⟩ := store_ok (d := none) (tt := tt) (pos := pos) (after := after) (g := g) hb hty hs2 hp
            unfold Oper.wp
            rw [hrun, Oper.upon_skip]
            exact hrec env ((key, c, false) :: mem) _ _ (by rw [hslot i _ ho']; rfl) (by rw [hQ]; rfl) ⟨β, hb'⟩
          · rw [if_neg (by simp [hw false (hguard.trans hwt)])]
            have hu := Rep.putUndef (o := o) hr hdN
            have hskip : lk (skipE o.dst env) = lk (putE (slotD l i) (s.A i) env) := by
              rw [hslot i o ho']
              cases hdd : o.dst with
              | none => rfl
              | some d => rw [hA (by rw [hdd]; rfl)]; rfl
            exact hrec _ _ _ _ hskip (by rw [hQ]; rfl) hu
  have hrep2 : Rep V w0 N (lk env0) (lk mem0) a0 { w0' with drawn := w0'.drawn + 1 } := by
    obtain ⟨β, h⟩ := hrep
    exact ⟨β, h.fresh, Ext.below (Ext.drew w0') h.below, h.size, h.defers, h.mem, h.inj, fun k av he => by
      obtain ⟨v, h1, h2⟩ := h.slots k av he
      exact ⟨v, h1, h2.ext (Ext.drew w0')⟩⟩
  have hempty : ∀ k, (Array.replicate ops.size false).getD k false = false := fun k => by
    by_cases h : k < ops.size
    · simp [h]
    · simp [Array.getElem?_eq_none (by simpa using h : (Array.replicate ops.size false).size ≤ k)]
  refine main ops.size _ env0 mem0 a0 _ (by simp [l]) (fun j o ho hj => by rw [hempty] at hj; cases hj) ?_ hrep2 ?_
  · have h1 : Inv l env0 mem0 s.A s.Q (fun _ => False) env0 mem0 := ⟨fun _ _ h => h.elim, fun t _ => rfl, fun _ _ h => h.elim, fun key _ => rfl⟩
    exact h1.congr fun k => by rw [hempty]; simp
  · have := List.countP_le_length (p := fun i => !(Array.replicate ops.size false).getD i false) (l := List.range l.length)
    rw [List.length_range] at this
    omega
end Go.AM
namespace Go.AM
variable [Lay]
open Go.RowKit (Below)
variable {V : Nat → Prop} {w0 : World} {N : Nat}

def AvLe (ρ : List (Nat × Nat)) (mem mem' : List (Nat × Ct × Bool)) (a : Option AV) : AV → Prop
  | .dead => a.isSome = true
  | .tup _ => False
  | .v x => a = some (.v x)
  | .pt _ => False
  | .ref k' o => match lk ρ k' with
    | some k => a = some (.ref k o) ∧ (lk mem' k').isSome = true
    | none => False
  | .ow k' => match lk ρ k' with
    | some k => a = some (.ow k) ∧ (lk mem' k').isSome = true
    | none => a = some (.v (.slice none 0 0)) ∧ (lk mem' k').isSome = true
  | .al k' lo n => match lk ρ k' with
    | some k => a = some (.al k lo n) ∧ (lk mem' k').isSome = true
    | none => False
  | .ows k' n => match lk ρ k' with
    | some k => a = some (.ows k n) ∧ (lk mem' k').isSome = true
    | none => False
  | .rd kk l => match a with
    | some (.rd kk' l') => kk' = kk ∧ l' = l
    | some (.v (.slice none 0 0)) => l = []
    | some (.ow k) => (match lk mem k with
      | some (.ints kk' l', _) => kk' = kk ∧ l' = l
      | _ => False) ∧ (ρ.map (·.2)).contains k = false
    | _ => False
def Sl (ρ : List (Nat × Nat)) (mem mem' : List (Nat × Ct × Bool)) (env : List (Nat × AV)) : List (Nat × AV) → Prop
  | [] => True
  | (t, a) :: l => AvLe ρ mem mem' (lk env t) a ∧ Sl ρ mem mem' env l
def Me (ρ : List (Nat × Nat)) (mem : List (Nat × Ct × Bool)) : List (Nat × Ct × Bool) → Prop
  | [] => True
  | (k', c, fr) :: l => (match lk ρ k' with
    | some k => match lk mem k with
      | some (c', fr') => c' = c ∧ fr' = fr
      | none => False
    | none => c.len = 0) ∧ Me ρ mem l
theorem slotsLe_lk {ρ : List (Nat × Nat)} {mem mem' : List (Nat × Ct × Bool)} {env : List (Nat × AV)} : ∀ {env' : List (Nat × AV)}, Sl ρ mem mem' env env' → ∀ t a, lk env' t = some a → AvLe ρ mem mem' (lk env t) a
  | [], _, t, a, h => by cases h
  | (t0, a0) :: l, h, t, a, ht => by
    simp only [lk] at ht
    split at ht
    · rename_i he; subst he; cases ht; exact h.1
    · exact slotsLe_lk h.2 t a ht
theorem memLe_lk {ρ : List (Nat × Nat)} {mem : List (Nat × Ct × Bool)} : ∀ {mem' : List (Nat × Ct × Bool)}, Me ρ mem mem' → ∀ k' c fr, lk mem' k' = some (c, fr) → (∃ k, lk ρ k' = some k ∧ lk mem k = some (c, fr)) ∨ (lk ρ k' = none ∧ c.len = 0)
  | [], _, k', c, fr, h => by cases h
  | (k0, c0, fr0) :: l, h, k', c, fr, hk => by
    simp only [lk] at hk
    split at hk
    · rename_i he
      subst he
      cases hk
      have h1 := h.1
      cases hr : lk ρ k' with
      | none => rw [hr] at h1; exact .inr ⟨rfl, h1⟩
      | some k =>
        rw [hr] at h1
        simp only at h1
        cases hm : lk mem k with
        | none => rw [hm] at h1; exact h1.elim
        | some x => rw [hm] at h1; obtain ⟨c', fr'⟩ := x; obtain ⟨rfl, rfl⟩ := h1; exact .inl ⟨k, rfl, hm⟩
    · exact memLe_lk h.2 k' c fr hk
theorem rho_inj : ∀ {ρ : List (Nat × Nat)}, nodupN (ρ.map (·.2)) = true → ∀ k1 k2 k, lk ρ k1 = some k → lk ρ k2 = some k → k1 = k2
  | [], _, k1, k2, k, h, _ => by cases h
  | (j, y) :: l, hn, k1, k2, k, h1, h2 => by
    have hn := nodupN_ok hn
    simp only [List.map_cons, List.nodup_cons] at hn
    simp only [lk] at h1 h2
    split at h1 <;> split at h2
    · rename_i e1 e2; rw [e1, e2]
    · cases h1; exact absurd (List.mem_map.2 ⟨_, lk_mem h2, rfl⟩) hn.1
    · cases h2; exact absurd (List.mem_map.2 ⟨_, lk_mem h1, rfl⟩) hn.1
    · have : nodupN (l.map (·.2)) = true := by
        have h3 := ‹nodupN (((j, y) :: l).map (·.2)) = true›
        simp only [List.map_cons, nodupN, Bool.and_eq_true] at h3
        exact h3.2
      exact rho_inj this k1 k2 k h1 h2
theorem Eo (ρ : List (Nat × Nat)) {env env' : List (Nat × AV)} {mem mem' : List (Nat × Ct × Bool)} (hρ : nodupN (ρ.map (·.2)) = true) (hm : Me ρ mem mem') (hs : Sl ρ mem mem' env env') : Ent env mem env' mem' := by
  rintro V w0 N a w ⟨β, h⟩
  let β' : Nat → Option Nat := fun k' => (lk ρ k').bind β
  have hinj : Inj β' (lk mem') := by
    intro k1 k2 b h1 h2 e1 e2
    simp only [β'] at e1 e2
    obtain ⟨j1, hj1, hb1⟩ := Option.bind_eq_some_iff.1 e1
    obtain ⟨j2, hj2, hb2⟩ := Option.bind_eq_some_iff.1 e2
    have dom : ∀ k j, lk ρ k = some j → (lk mem' k).isSome = true → (lk mem j).isSome = true := fun k j hk hs => by
      obtain ⟨⟨c, fr⟩, hc⟩ := Option.isSome_iff_exists.1 hs
      rcases memLe_lk hm k c fr hc with ⟨j', h3, h4⟩ | ⟨h3, _⟩
      · rw [hk] at h3; cases h3; rw [h4]; rfl
      · rw [hk] at h3; cases h3
    have := h.inj j1 j2 b (dom _ _ hj1 h1) (dom _ _ hj2 h2) hb1 hb2
    subst this
    exact rho_inj hρ k1 k2 j1 hj1 hj2
  have apart : ∀ b, Apart β (lk mem) b → Apart β' (lk mem') b := by
    intro b ha k' c hc he
    simp only [β'] at he
    obtain ⟨k, hk, hb⟩ := Option.bind_eq_some_iff.1 he
    rcases memLe_lk hm k' c false hc with ⟨j, h3, h4⟩ | ⟨h3, _⟩
    · rw [hk] at h3; cases h3; exact ha k c h4 hb
    · rw [hk] at h3; cases h3
  refine ⟨β', h.fresh, h.below, h.size, h.defers, ?_, hinj, ?_⟩
  · intro k' c fr hc
    rcases memLe_lk hm k' c fr hc with ⟨k, h3, h4⟩ | ⟨h3, h4⟩
    · have := h.mem k c fr h4
      simp only [β', h3, Option.bind_some]
      exact this
    · have hnil : c.cells = [] := by cases c <;> simp_all [Ct.len, Ct.cells]
      exact ⟨by rw [hnil]; rfl, .inl ⟨by simp [β', h3], h4⟩⟩
  · intro t av' ht
    have hle := slotsLe_lk hs t av' ht
    have get : ∀ av, lk env t = some av → ∃ v, a.tmps[t]? = some v ∧ RepA V β (lk mem) w av v := fun av he => h.slots t av he
    cases av' with
    | dead =>
      obtain ⟨av, ha⟩ := Option.isSome_iff_exists.1 hle
      obtain ⟨v, hv, _⟩ := get _ ha
      exact ⟨v, hv, trivial⟩
    | tup l => exact hle.elim
    | v x => exact get _ hle
    | pt x => exact hle.elim
    | ref k' o =>
      simp only [AvLe] at hle
      split at hle
      · rename_i k hk
        obtain ⟨v, hv, hr⟩ := get _ hle.1
        obtain ⟨h1, b, h2, h3⟩ := hr
        exact ⟨v, hv, hle.2, b, by simp [β', hk, h2], h3⟩
      · exact hle.elim
    | ow k' =>
      simp only [AvLe] at hle
      split at hle
      · rename_i k hk
        obtain ⟨v, hv, c, fr, cap, h1, h2, h3, h4⟩ := get _ hle.1
        obtain ⟨⟨c', fr'⟩, hc'⟩ := Option.isSome_iff_exists.1 hle.2
        rcases memLe_lk hm k' c' fr' hc' with ⟨j, h5, h6⟩ | ⟨h5, _⟩
        · rw [hk] at h5; cases h5
          rw [h1] at h6; cases h6
          exact ⟨v, hv, c, fr, cap, hc', h2.mono (by simp [β', hk]) (fun b _ => Nat.le_refl _), h3, by simp only [β', hk, Option.bind_some]; exact h4⟩
        · rw [hk] at h5; cases h5
      · rename_i hk
        obtain ⟨v, hv, hr⟩ := get _ hle.1
        obtain ⟨⟨c', fr'⟩, hc'⟩ := Option.isSome_iff_exists.1 hle.2
        rcases memLe_lk hm k' c' fr' hc' with ⟨j, h5, h6⟩ | ⟨h5, h6⟩
        · rw [hk] at h5; cases h5
        · exact ⟨v, hv, c', fr', 0, hc', ⟨Nat.zero_le _, fun b _ => Nat.zero_le _⟩, by omega, .inl ⟨by simp [β', hk], h6, hr⟩⟩
    | al k' lo n =>
      simp only [AvLe] at hle
      split at hle
      · rename_i k hk
        obtain ⟨v, hv, ⟨c, fr, h1, h2⟩, A, cap, h3, h4, h5, h6⟩ := get _ hle.1
        obtain ⟨⟨c', fr'⟩, hc'⟩ := Option.isSome_iff_exists.1 hle.2
        rcases memLe_lk hm k' c' fr' hc' with ⟨j, h7, h8⟩ | ⟨h7, _⟩
        · rw [hk] at h7; cases h7
          rw [h1] at h8; cases h8
          exact ⟨v, hv, ⟨c, fr, hc', h2⟩, A, cap, h3, h4, h5.mono (by simp [β', hk]) (fun b _ => Nat.le_refl _), by simp only [β', hk, Option.bind_some]; exact h6⟩
        · rw [hk] at h7; cases h7
      · exact hle.elim
    | ows k' n =>
      simp only [AvLe] at hle
      split at hle
      · rename_i k hk
        obtain ⟨v, hv, c, fr, cap, b, h1, h2, h3, h4, h5⟩ := get _ hle.1
        obtain ⟨⟨c', fr'⟩, hc'⟩ := Option.isSome_iff_exists.1 hle.2
        exact ⟨v, hv, c', fr', cap, b, hc', by simp [β', hk, h2], h3, h4, h5⟩
      · exact hle.elim
    | rd kk l =>
      simp only [AvLe] at hle
      split at hle
      · rename_i kk' l' ha
        obtain ⟨rfl, rfl⟩ := hle
        obtain ⟨v, hv, A, cap, h1, h2, h3, h4⟩ := get _ ha
        exact ⟨v, hv, A, cap, h1, h2, h3, fun hl => by
          obtain ⟨ad, h5, ⟨h6, h7⟩, h8⟩ := h4 hl
          exact ⟨ad, h5, ⟨h6, apart _ h7⟩, h8⟩⟩
      · rename_i ha
        subst hle
        obtain ⟨v, hv, hr⟩ := get _ ha
        exact ⟨v, hv, none, 0, hr, Nat.le_refl _, Nat.zero_le _, fun hl => absurd rfl hl⟩
      · rename_i k ha
        obtain ⟨hc, hk⟩ := hle
        split at hc
        · rename_i kk' l' fr hmk
          obtain ⟨rfl, rfl⟩ := hc
          obtain ⟨v, hv, c, fr', cap, h1, h2, h3, h4⟩ := get _ ha
          rw [hmk] at h1; cases h1
          rcases h4 with ⟨h5, h6, h7⟩ | ⟨b, h5, h6⟩
          · have hl0 : l' = [] := List.length_eq_zero_iff.1 h6
            subst hl0
            exact ⟨v, hv, none, 0, h7, Nat.le_refl _, Nat.zero_le _, fun hl => absurd rfl hl⟩
          · refine ⟨v, hv, some ⟨b, 0, none⟩, cap, h6, h3, h2.1, fun hl => ⟨_, rfl, ⟨?_, ?_⟩, ?_⟩⟩
            · rcases (h.mem k _ _ hmk).2 with ⟨h7, _⟩ | ⟨b', arr, T, rest, h7, h8, _⟩
              · rw [h5] at h7; cases h7
              · rw [h5] at h7; cases h7; exact h.fresh.1 b h8
            · intro k' c hc he
              simp only [β'] at he
              obtain ⟨j, hj, hbj⟩ := Option.bind_eq_some_iff.1 he
              rcases memLe_lk hm k' c false hc with ⟨j', h7, h8⟩ | ⟨h7, _⟩
              · rw [hj] at h7; cases h7
                have := h.inj j k b (by rw [h8]; rfl) (by rw [hmk]; rfl) hbj h5
                subst this
                have : (ρ.map (·.2)).contains j = true := by
                  simp only [List.contains_eq_mem, decide_eq_true_eq]
                  exact List.mem_map.2 ⟨_, lk_mem hj, rfl⟩
                rw [this] at hk; cases hk
              · rw [hj] at h7; cases h7
            · intro i hi
              rcases (h.mem k _ _ hmk).2 with ⟨h7, _⟩ | ⟨b', arr, T, rest, h7, h8, h9, h10⟩
              · rw [h5] at h7; cases h7
              · rw [h5] at h7; cases h7
                rw [Addr.add_plain]
                exact h.cell hmk h5 (by simp [Ct.cells] at hi ⊢; simp [hi])
        · exact hc.elim
      · exact hle.elim
end Go.AM
namespace Go.AM
variable [Lay]
variable {ty : Ty} {Γ : Gam}
instance instDecInR (k : IntKind) (n : Int) : Decidable (inR k n) := by
  cases k <;> (simp only [inR]; infer_instance)
def ldB (c : Ct) (off size : Nat) (agg : Bool) : Bool := match c with
  | .vals l => if agg then decide (off + size ≤ l.length) else decide (off < l.length)
  | .ints _ l => decide (off < l.length)
def arrB (k : IntKind) (n : Int) : Bool := !(sgn k) || decide (inR k n)
def binB (op : BinOp) (x y : Value) : Bool := match x, y with
  | .int k a, .int _ b => match op with
    | .shl => decide (0 ≤ b) && (!(sgn k) || decide (inR k (a * 2 ^ (min b.toNat k.bits))))
    | .shr => decide (0 ≤ b)
    | .add => arrB k (a + b)
    | .sub => arrB k (a - b)
    | .mul => arrB k (a * b)
    | .quo => decide (b ≠ 0) && decide (inR k (a.tdiv b))
    | .rem => decide (b ≠ 0)
    | _ => true
  | .string a, .string b => decide (a.size + b.size ≤ 9223372036854775807)
  | _, _ => true
def brB (s : St) (n : Nat) (lo hi : Option Operand) : Bool := match bracket s n lo hi with
  | some lh => decide (0 ≤ lh.1) && decide (lh.1 ≤ lh.2) && decide (lh.2 ≤ (n : Int))
  | none => true
def resB : Res → Bool
  | .one _ => true
  | .many rs => !(rs.any RV.isView && rs.any RV.isFresh)
def slB (ty : Ty) (s : St) (t : TypeId) (x : AV) (lo hi : Option Operand) : Bool := match x with
  | .v (.string b) => brB s b.size lo hi
  | .rd _ ns => brB s ns.length lo hi
  | .ow key => match s.m key with
    | some c => brB s c.1.len lo hi
    | none => true
  | .al _ _ n => brB s n lo hi
  | .v (.slice none 0 0) => brB s 0 lo hi && (match bracket s 0 lo hi with | some lh => decide (lh.1 = 0 ∧ lh.2 = 0) | none => true)
  | .ref key off => match ty t with
    | some i => match i.kind with
      | .arr n _ => match s.m key with
        | some c => brB s n lo hi && decide (off + n ≤ c.1.len)
        | none => true
      | _ => true
    | none => true
  | _ => true
def ixB (ty : Ty) (s : St) (t : TypeId) (x i : AV) : Bool := match intOf i with
  | none => true
  | some j => match x with
    | .rd _ l => decide (0 ≤ j) && decide (j < l.length)
    | .ow key => match s.m key with
      | some c => decide (0 ≤ j) && decide (j < c.1.len)
      | none => true
    | .al _ _ n => decide (0 ≤ j) && decide (j < n)
    | .ows _ n => decide (0 ≤ j) && decide (j < n)
    | .ref _ _ => match ty t with
      | some ti => match ti.kind with
        | .arr n _ => decide (0 ≤ j) && decide (j < n)
        | _ => true
      | none => true
    | .v (.string b) => decide (0 ≤ j) && decide (j < b.size)
    | .v (.agg cs) => match ty t with
      | some ti => match ti.kind with
        | .arr n e => decide (0 ≤ j) && decide (j < n) && (match ty e with | some ei => ldB (.vals cs.toList) (j.toNat * ei.size) ei.size ei.agg | none => true)
        | _ => true
      | none => true
    | _ => true
def preB (ty : Ty) (Γ : Gam) (s : St) (op : Op) : Bool := match op with
  | .load t x => match ty t, opd s x with
    | some i, .ref key off => match s.m key with
      | some c => ldB c.1 off i.size i.agg
      | none => true
    | _, _ => true
  | .binOp o _ x y _ => match opd s x, opd s y with
    | .v a, .v b => binB o a b
    | _, _ => true
  | .unOp o _ x => match o, opd s x with
    | .neg, .v (.int k n) => arrB k (0 - n)
    | _, _ => true
  | .convert _ t x => match ty t, opd s x with
    | some i, .v (.int _ n) => match i.kind with
      | .int k => arrB k n
      | _ => true
    | _, _ => true
  | .makeSlice t l c => match ty t with
    | some i => match i.kind with
      | .slice e => match ty e, opd s l, opd s c with
        | some ei, .v (.int _ n), .v (.int _ m) => decide (n = m) && decide (0 ≤ n) && decide (n * ei.bytes ≤ 140737488355328)
        | _, _, _ => true
      | _ => true
    | none => true
  | .slice t x lo hi _ => slB ty s t (opd s x) lo hi
  | .field t x f => match ty t, opd s x with
    | some i, .v (.agg cs) => match i.kind with
      | .struct fs => match fs[f]? with
        | some p => match ty p.2 with
          | some fi => ldB (.vals cs.toList) p.1 fi.size fi.agg
          | none => true
        | none => true
      | _ => true
    | _, _ => true
  | .indexAddr t x i => ixB ty s t (opd s x) (opd s i)
  | .index t x i => ixB ty s t (opd s x) (opd s i)
  | .call ⟨.value (.func f), args, _⟩ => match lk Γ f, dvs s args.toList with
    | some fs, some ds => match fs.2 ds with
      | some pr => resB pr.2
      | none => true
    | _, _ => true
  | _ => true
def Free (Γ : Gam) : Prop := ∀ f fk spec ds p r, lk Γ f = some (fk, spec) → spec ds = some (p, r) → p
theorem ldB_ok {c : Ct} {off size : Nat} {agg : Bool} {pv : Prop × Value} (h : ldAt c off size agg = some pv) (hb : ldB c off size agg = true) : pv.1 := by
  unfold ldAt at h; unfold ldB at hb
  cases c with
  | ints k l =>
    simp only at h hb
    split at h
    · cases h
    · cases h; exact of_decide_eq_true hb
  | vals l =>
    simp only at h hb
    cases hag : agg with
    | true => rw [hag, if_pos rfl] at h hb; cases h; exact of_decide_eq_true hb
    | false => rw [hag, if_neg (by decide)] at h hb; cases h; exact of_decide_eq_true hb
theorem arrB_ok {k : IntKind} {n : Int} (h : arrB k n = true) : (arr k n).1 := by
  unfold arrB at h; unfold arr
  split <;> simp_all
theorem binB_ok {op : BinOp} {x y : Value} {pv : Prop × Value} (h : bin op x y = some pv) (hb : binB op x y = true) : pv.1 := by
  unfold bin at h
  split at h
  · simp only [binB] at hb
    split at h
    · cases h; simp at hb ⊢; exact ⟨hb.1, fun hs => by simpa [hs] using hb.2⟩
    · cases h; simpa using hb
    · split at h
      · split at h <;> first | (cases h; first | trivial | exact arrB_ok hb | (simpa using hb)) | cases h
      · cases h
  · simp only [binB] at hb
    split at h <;> first | (cases h; first | trivial | (simpa using hb)) | cases h
  · split at h <;> first | (cases h; trivial) | cases h
  · split at h
    · obtain ⟨_, _, h⟩ := Option.map_eq_some_iff.1 h; subst h; trivial
    · cases h
  · cases h
theorem brB_ok {s : St} {n : Nat} {lo hi : Option Operand} {lh : Int × Int} (h : bracket s n lo hi = some lh) (hb : brB s n lo hi = true) : 0 ≤ lh.1 ∧ lh.1 ≤ lh.2 ∧ lh.2 ≤ (n : Int) := by
  unfold brB at hb
  rw [h] at hb
  simp only [Bool.and_eq_true, decide_eq_true_eq] at hb
  exact ⟨hb.1.1, hb.1.2, hb.2⟩

theorem preB_ok {s : St} {d : Nat} {op : Op} {out : Out} (hF : Free Γ) (h : aStep ty Γ s d op = some out) (hb : preB ty Γ s op = true) : out.pre := by
  unfold aStep at h
  split at h
  case h_1 => cases h; trivial
  case h_2 => cases h; trivial
  case h_3 => split at h <;> cases h; trivial
  case h_4 t => cases ht : ty t <;> rw [ht] at h <;> cases h; trivial
  case h_5 x =>
    obtain ⟨v, _, h⟩ := Option.bind_eq_some_iff.1 h
    split at h <;> cases h; trivial
  case h_6 t parts =>
    unfold stBuild at h
    obtain ⟨i, _, h⟩ := Option.bind_eq_some_iff.1 h
    split at h
    · obtain ⟨cs, _, h⟩ := Option.map_eq_some_iff.1 h; subst h; trivial
    · obtain ⟨ei, _, h⟩ := Option.bind_eq_some_iff.1 h
      obtain ⟨cs, _, h⟩ := Option.map_eq_some_iff.1 h; subst h; trivial
    · cases h
  case h_7 t n parts =>
    unfold stBuildSlice at h
    obtain ⟨i, _, h⟩ := Option.bind_eq_some_iff.1 h
    split at h
    · obtain ⟨ei, _, h⟩ := Option.bind_eq_some_iff.1 h
      split at h
      · split at h
        · obtain ⟨cs, _, h⟩ := Option.bind_eq_some_iff.1 h
          obtain ⟨l, _, h⟩ := Option.map_eq_some_iff.1 h; subst h; trivial
        · cases h
      · split at h
        · obtain ⟨cs, _, h⟩ := Option.bind_eq_some_iff.1 h
          split at h <;> cases h
          trivial
        · cases h
      · cases h
    · cases h
  case h_8 t x =>
    unfold stLoad at h
    obtain ⟨i, hi, h⟩ := Option.bind_eq_some_iff.1 h
    split at h
    · rename_i key off hx
      obtain ⟨c, hc, h⟩ := Option.bind_eq_some_iff.1 h
      obtain ⟨pv, hpv, h⟩ := Option.map_eq_some_iff.1 h
      subst h
      simp only [preB, hi, hx, hc] at hb
      exact ldB_ok hpv hb
    · split at h <;> cases h; trivial
    · cases h
  case h_9 o t x y _ =>
    unfold stBin at h
    split at h
    · obtain ⟨i, _, h⟩ := Option.bind_eq_some_iff.1 h
      split at h
      · split at h
        · obtain ⟨_, _, h⟩ := Option.map_eq_some_iff.1 h; subst h; trivial
        · obtain ⟨_, _, h⟩ := Option.map_eq_some_iff.1 h; subst h; trivial
        · cases h
      · cases h
    · rename_i a b _ hx hy
      split at h
      · obtain ⟨pv, hpv, h⟩ := Option.map_eq_some_iff.1 h
        subst h
        simp only [preB, hx, hy] at hb
        exact binB_ok hpv hb
      · cases h
    · cases h
  case h_10 o _ x =>
    unfold stUn at h
    split at h
    · rename_i a hx
      obtain ⟨pv, hpv, h⟩ := Option.map_eq_some_iff.1 h
      subst h
      simp only [preB, hx] at hb
      unfold un at hpv
      split at hpv
      · cases hpv; trivial
      · cases hpv; simp only at hb; exact arrB_ok hb
      · split at hpv <;> cases hpv; trivial
      · cases hpv
    · cases h
  case h_11 t0 t x =>
    unfold stConv at h
    obtain ⟨_, _, h⟩ := Option.bind_eq_some_iff.1 h
    obtain ⟨i, hi, h⟩ := Option.bind_eq_some_iff.1 h
    split at h
    · rename_i k a hk hx
      obtain ⟨pv, hpv, h⟩ := Option.map_eq_some_iff.1 h
      subst h
      unfold conv at hpv
      split at hpv
      · cases hpv
        simp only [preB, hi, hx, hk] at hb
        exact arrB_ok hb
      · obtain ⟨_, _, h⟩ := Option.map_eq_some_iff.1 hpv; subst h; trivial
      · cases hpv
    · obtain ⟨_, _, h⟩ := Option.map_eq_some_iff.1 h; subst h; trivial
    · cases h; trivial
    · split at h
      · obtain ⟨_, _, h⟩ := Option.map_eq_some_iff.1 h; subst h; trivial
      · cases h
    · cases h
  case h_12 t l c =>
    unfold stMake at h
    obtain ⟨i, hi, h⟩ := Option.bind_eq_some_iff.1 h
    split at h
    · rename_i e hk
      obtain ⟨ei, hei, h⟩ := Option.bind_eq_some_iff.1 h
      split at h
      · split at h
        · rename_i hl hc
          cases h
          simp only [preB, hi, hk, hei, hl, hc, Bool.and_eq_true, decide_eq_true_eq] at hb
          exact ⟨hb.1.1, hb.1.2, hb.2⟩
        · cases h
      · cases h
    · cases h
  case h_13 t x lo hi =>
    unfold stSlice at h
    simp only [preB, slB] at hb
    split at h
    · rename_i b hx
      split at h
      · obtain ⟨lh, hlh, h⟩ := Option.map_eq_some_iff.1 h
        subst h
        simp only [hx] at hb
        exact brB_ok hlh hb
      · cases h
    · rename_i k ns hx
      split at h
      · obtain ⟨lh, hlh, h⟩ := Option.map_eq_some_iff.1 h
        subst h
        simp only [hx] at hb
        exact brB_ok hlh hb
      · cases h
    · rename_i key hx
      split at h
      · obtain ⟨c, hc, h⟩ := Option.bind_eq_some_iff.1 h
        obtain ⟨lh, hlh, h⟩ := Option.map_eq_some_iff.1 h
        subst h
        simp only [hx, hc] at hb
        exact brB_ok hlh hb
      · cases h
    · rename_i key o n hx
      split at h
      · obtain ⟨lh, hlh, h⟩ := Option.map_eq_some_iff.1 h
        subst h
        simp only [hx] at hb
        exact brB_ok hlh hb
      · cases h
    · rename_i hx
      split at h
      · obtain ⟨lh, hlh, h⟩ := Option.map_eq_some_iff.1 h
        subst h
        simp only [hx, hlh, Bool.and_eq_true, decide_eq_true_eq] at hb
        exact hb.2
      · cases h
    · rename_i key off hx
      obtain ⟨i, hi', h⟩ := Option.bind_eq_some_iff.1 h
      split at h
      · rename_i n e hk
        obtain ⟨ei, _, h⟩ := Option.bind_eq_some_iff.1 h
        split at h
        · obtain ⟨c, hc, h⟩ := Option.bind_eq_some_iff.1 h
          obtain ⟨lh, hlh, h⟩ := Option.map_eq_some_iff.1 h
          subst h
          simp only [hx, hi', hk, hc, hlh, Bool.and_eq_true, decide_eq_true_eq] at hb
          exact ⟨brB_ok hlh hb.1, hb.2⟩
        · cases h
      · cases h
    · cases h
  case h_14 =>
    unfold stFieldAddr at h
    obtain ⟨i, _, h⟩ := Option.bind_eq_some_iff.1 h
    split at h
    · obtain ⟨p, _, h⟩ := Option.map_eq_some_iff.1 h; subst h; trivial
    · cases h
  case h_15 t x f =>
    unfold stField at h
    obtain ⟨i, hi, h⟩ := Option.bind_eq_some_iff.1 h
    split at h
    · rename_i fs cs hk hx
      obtain ⟨p, hp, h⟩ := Option.bind_eq_some_iff.1 h
      obtain ⟨fi, hfi, h⟩ := Option.bind_eq_some_iff.1 h
      obtain ⟨pv, hpv, h⟩ := Option.map_eq_some_iff.1 h
      subst h
      simp only [preB, hi, hx, hk, hp, hfi] at hb
      exact ldB_ok hpv hb
    · cases h
  case h_16 t x i =>
    unfold stIndexAddr at h
    obtain ⟨j, hj, h⟩ := Option.bind_eq_some_iff.1 h
    simp only [preB, ixB, hj] at hb
    split at h
    · rename_i hx
      split at h
      · cases h; simp only [hx, Bool.and_eq_true, decide_eq_true_eq] at hb; exact hb
      · cases h
    · rename_i hx
      split at h
      · obtain ⟨c, hc, h⟩ := Option.map_eq_some_iff.1 h
        subst h
        simp only [hx, hc, Bool.and_eq_true, decide_eq_true_eq] at hb; exact hb
      · cases h
    · rename_i hx
      split at h
      · cases h; simp only [hx, Bool.and_eq_true, decide_eq_true_eq] at hb; exact hb
      · cases h
    · rename_i hx
      obtain ⟨ti, hti, h⟩ := Option.bind_eq_some_iff.1 h
      split at h
      · obtain ⟨ei, _, h⟩ := Option.map_eq_some_iff.1 h
        subst h
        simp only [hx, Bool.and_eq_true, decide_eq_true_eq] at hb; exact hb
      · cases h
    · rename_i hx
      obtain ⟨ti, hti, h⟩ := Option.bind_eq_some_iff.1 h
      split at h
      · rename_i n e hk
        obtain ⟨ei, _, h⟩ := Option.map_eq_some_iff.1 h
        subst h
        simp only [hx, hti, hk, Bool.and_eq_true, decide_eq_true_eq] at hb; exact hb
      · cases h
    · cases h
  case h_17 t x i =>
    unfold stIndex at h
    obtain ⟨j, hj, h⟩ := Option.bind_eq_some_iff.1 h
    simp only [preB, ixB, hj] at hb
    split at h
    · rename_i hx
      split at h
      · cases h; simp only [hx, Bool.and_eq_true, decide_eq_true_eq] at hb; exact hb
      · cases h
    · rename_i cs hx
      obtain ⟨ti, hti, h⟩ := Option.bind_eq_some_iff.1 h
      split at h
      · rename_i n e hk
        obtain ⟨ei, hei, h⟩ := Option.bind_eq_some_iff.1 h
        obtain ⟨pv, hpv, h⟩ := Option.map_eq_some_iff.1 h
        subst h
        simp only [hx, hti, hk, hei, Bool.and_eq_true, decide_eq_true_eq] at hb
        exact ⟨hb.1, ldB_ok hpv hb.2⟩
      · cases h
    · cases h
  case h_18 =>
    unfold stExtract at h
    split at h
    · obtain ⟨a, _, h⟩ := Option.map_eq_some_iff.1 h; subst h; trivial
    · cases h
  case h_19 x t =>
    unfold stLen at h
    split at h
    · split at h <;> cases h; trivial
    · split at h
      · obtain ⟨a, _, h⟩ := Option.map_eq_some_iff.1 h; subst h; trivial
      · cases h
  case h_20 => unfold stMax at h; split at h <;> cases h; trivial
  case h_21 => unfold stMin at h; split at h <;> cases h; trivial
  case h_22 f args _ =>
    unfold stCall at h
    obtain ⟨⟨fk, spec⟩, h1, h⟩ := Option.bind_eq_some_iff.1 h
    obtain ⟨ds, h2, h⟩ := Option.bind_eq_some_iff.1 h
    obtain ⟨⟨p, r⟩, h3, h⟩ := Option.map_eq_some_iff.1 h
    have hp := hF f fk spec ds p r h1 h3
    subst h
    have h3' : spec ds = some (p, r) := h3
    simp only [preB, h1, h2, h3'] at hb
    cases r with
    | one r => exact hp
    | many rs =>
      refine ⟨hp, fun hc => ?_⟩
      simp only [resB, hc.1, hc.2] at hb
      cases hb
  case h_23 => cases h
end Go.AM
namespace Go.AM
variable [Lay]
variable {P : Program} {ty : Ty} {Γ : Gam}
abbrev EL := List (Nat × AV)
abbrev ML := List (Nat × Ct × Bool)
def freshB (mem : Mem) (d : Nat) : ML → Bool
  | [] => true
  | (k, _, fr) :: r => (fr || (decide (16 * d ≤ k) && decide (k < 16 * d + 16) && (mem k).isNone)) && freshB mem d r
theorem freshB_ok {mem : Mem} {d : Nat} : ∀ {l : ML}, freshB mem d l = true → Fr mem d l
  | [], _ => trivial
  | (k, c, fr) :: r, h => by
    simp only [freshB, Bool.and_eq_true, Bool.or_eq_true, decide_eq_true_eq, Option.isNone_iff_eq_none] at h
    exact ⟨h.1.imp id fun h => ⟨h.1.1, h.1.2, h.2⟩, freshB_ok h.2⟩
def noFzB : ML → Bool
  | [] => true
  | (_, _, fr) :: r => !fr && noFzB r
theorem noFzB_ok : ∀ {l : ML}, noFzB l = true → noFz l
  | [], _ => trivial
  | (k, c, fr) :: r, h => by
    simp only [noFzB, Bool.and_eq_true, Bool.not_eq_true'] at h
    exact ⟨h.1, noFzB_ok h.2⟩
def stB (c : Ct) (off n : Nat) : Bool := match c with
  | .vals l => decide (off + n ≤ l.length)
  | .ints _ l => decide (off < l.length)
def spB (ty : Ty) (env : EL) (mem : ML) (d : Nat) (op : Op) : Bool := match op with
  | .call ⟨.builtin .append, ⟨[x, y]⟩, ⟨[t, _]⟩⟩ => match intSl ty t with
    | some kb => match yInts ⟨lk env, lk mem⟩ kb.1 (opd ⟨lk env, lk mem⟩ y), slLen ⟨lk env, lk mem⟩ (opd ⟨lk env, lk mem⟩ x) with
      | some l', some n => decide ((n + l'.length) * kb.2 ≤ 140737488355328)
      | _, _ => false
    | none => false
  | _ => true
theorem spB_ok {env : EL} {mem : ML} {d : Nat} {op : Op} {s : Sp} (h : aSp ty env mem d op = some s) (hb : spB ty env mem d op = true) : s.pre := by
  unfold aSp at h
  split at h
  · rename_i x y t t'
    split at h
    · unfold spAppend at h
      obtain ⟨kb, hkb, h⟩ := Option.bind_eq_some_iff.1 h
      obtain ⟨l', hl', h⟩ := Option.bind_eq_some_iff.1 h
      simp only [spB, hkb, hl'] at hb
      split at h
      · rename_i hx
        split at h
        · cases h
          rw [hx] at hb
          simp only [slLen, decide_eq_true_eq] at hb
          simpa using hb
        · cases h
      · rename_i key hx
        split at h
        · rename_i k2 l hm
          split at h
          · cases h
            rw [hx] at hb
            simp only [slLen, hm, Option.map_some, Ct.len, decide_eq_true_eq] at hb
            exact hb
          · cases h
        · cases h
      · cases h
    · cases h
  · unfold spCopy at h
    obtain ⟨kb, hkb, h⟩ := Option.bind_eq_some_iff.1 h
    obtain ⟨l', hl', h⟩ := Option.bind_eq_some_iff.1 h
    split at h
    · split at h
      · obtain ⟨_, _, rfl⟩ := Option.map_eq_some_iff.1 h; trivial
      · cases h
    · split at h
      · obtain ⟨_, _, rfl⟩ := Option.map_eq_some_iff.1 h; trivial
      · cases h
    · cases h
  · cases h
def rOne (ty : Ty) (Γ : Gam) (o : Oper) (env : EL) (mem : ML) : Option (EL × ML) :=
  match o.dst, o.op with
  | some d, op => if isSp op then (match aSp ty env mem d op with
      | some s => if spB ty env mem d op then some ((d, s.av) :: s.env, (s.key, s.ct, false) :: mem) else none
      | none => none)
    else match aStep ty Γ ⟨lk env, lk mem⟩ d op with
    | some out => if preB ty Γ ⟨lk env, lk mem⟩ op && freshB (lk mem) d out.mem then some ((d, out.av) :: env, out.mem ++ mem) else none
    | none => none
  | none, .store t x y => match opd ⟨lk env, lk mem⟩ x, valOf (opd ⟨lk env, lk mem⟩ y) with
    | .ref key off, some v => match lk mem key with
      | some (c, false) => if stB c off (vcells v).length then (match aStore ty ⟨lk env, lk mem⟩ t x y with
        | some (key, _, c) => some (env, (key, c, false) :: mem)
        | none => none) else none
      | _ => none
    | _, _ => none
  | none, _ => none
def rOps (ty : Ty) (Γ : Gam) (all : List Oper) : List Oper → EL → ML → Option (EL × ML)
  | [], env, mem => some (env, mem)
  | o :: r, env, mem => match aGuard all ⟨lk env, lk mem⟩ o.guard with
    | .no => (rOne ty Γ o env mem).bind fun x => rOps ty Γ all r x.1 x.2
    | .tt true => (rOne ty Γ o (gset all o.guard true ++ env) mem).bind fun x => rOps ty Γ all r x.1 x.2
    | .tt false => rOps ty Γ all r (skipE o.dst (gset all o.guard false ++ env)) mem
    | .off => rOps ty Γ all r (skipE o.dst env) mem
    | .bad => none
def dOneB (ty : Ty) (Γ : Gam) (mem0 : ML) (i : Nat) (o : Oper) (rd wr : NNs) (env : EL) (mem : ML) : Option ((NNs × NNs) × EL × ML) :=
  if keysAt mem0 (lk env) (tmpsOf o.op) && clash wr o (rdKeys (lk env) (tmpsOf o.op)) then match o.dst with
    | some d => match aStep ty Γ ⟨lk env, lk mem⟩ d o.op with
      | some out => if preB ty Γ ⟨lk env, lk mem⟩ o.op && freshB (lk mem) d out.mem && noFzB out.mem then some (((rdKeys (lk env) (tmpsOf o.op)).map (fun x => (i, x)) ++ rd, wr), (d, out.av) :: env, out.mem ++ mem) else none
      | none => none
    | none => match o.op with
      | .store t x y => match opd ⟨lk env, lk mem⟩ x, valOf (opd ⟨lk env, lk mem⟩ y) with
        | .ref key off, some v => match lk mem key with
          | some (c, false) => if stB c off (vcells v).length && (lk mem0 key).isSome && clashK rd o key then (match aStore ty ⟨lk env, lk mem⟩ t x y with
            | some (key', _, c) => if key' = key then some (((rdKeys (lk env) (tmpsOf o.op)).map (fun x => (i, x)) ++ rd, (i, key) :: wr), env, (key, c, false) :: mem) else none
            | none => none) else none
          | _ => none
        | _, _ => none
      | _ => none
  else none
def rD (ty : Ty) (Γ : Gam) (all : List Oper) (mem0 : ML) : Nat → NNs → NNs → List Oper → EL → ML → Option (EL × ML)
  | _, _, _, [], env, mem => some (env, mem)
  | i, rd, wr, o :: r, env, mem => match aGuard all ⟨lk env, lk mem⟩ o.guard with
      | .no => (dOneB ty Γ mem0 i o rd wr env mem).bind fun x => rD ty Γ all mem0 (i + 1) x.1.1 x.1.2 r x.2.1 x.2.2
      | .tt true => (dOneB ty Γ mem0 i o rd wr (gset all o.guard true ++ env) mem).bind fun x => rD ty Γ all mem0 (i + 1) x.1.1 x.1.2 r x.2.1 x.2.2
      | .tt false => rD ty Γ all mem0 (i + 1) rd wr r (skipE o.dst (gset all o.guard false ++ env)) mem
      | .off => rD ty Γ all mem0 (i + 1) rd wr r (skipE o.dst env) mem
      | .bad => none
def shA (c : Nat) : AV → AV
  | .ref k o => .ref (k + c) o
  | .ow k => .ow (k + c)
  | .al k lo n => .al (k + c) lo n
  | .ows k n => .ows (k + c) n
  | .rd k l => .rd k l
  | .v x => .v x
  | _ => .dead
def dedup {α : Type} : List (Nat × α) → List Nat → List (Nat × α)
  | [], _ => []
  | (k, x) :: r, seen => if seen.contains k then dedup r seen else (k, x) :: dedup r (k :: seen)
def shE (c : Nat) (env : EL) : EL := env.map fun p => (p.1, shA c p.2)
def shM (c : Nat) (mem : ML) : ML := mem.map fun p => (p.1 + c, p.2)
def rev (ty : Ty) (Γ : Gam) (sh : Nat) : Nat → Code → EL → ML → Option (Ex × EL × ML)
  | 0, _, _, _ => none
  | f + 1, c, env, mem => match c with
    | .skip => some (.normal, env, mem)
    | .ret => some (.ret, env, mem)
    | .exit id => some (.exit id, env, mem)
    | .seq a b => match rev ty Γ sh f a env mem with
      | some (.normal, env', mem') => rev ty Γ sh f b env' mem'
      | some (.ret, env', mem') => some (.ret, env', mem')
      | some (.exit id, env', mem') => some (.exit id, env', mem')
      | none => none
    | .block id c => match rev ty Γ sh f c env mem with
      | some (.normal, env', mem') => some (.normal, env', mem')
      | some (.ret, env', mem') => some (.ret, env', mem')
      | some (.exit j, env', mem') => if j = id then some (.normal, env', mem') else some (.exit j, env', mem')
      | none => none
    | .cond x a b => match opd ⟨lk env, lk mem⟩ x with
      | .v (.bool true) => rev ty Γ sh f a env mem
      | .v (.bool false) => rev ty Γ sh f b env mem
      | _ => none
    | .region _ ops dr => match dr with
      | false => (rOps ty Γ ops.toList ops.toList env mem).map fun x => (.normal, x.1, x.2)
      | true => if drawOk ops.toList then (rD ty Γ ops.toList mem 0 [] [] ops.toList env mem).map fun x => (.normal, x.1, x.2) else none
    | .loop c => match rev ty Γ sh f c (shE sh (dedup env [])) (shM sh (dedup mem [])) with
      | some (.normal, env', mem') => rev ty Γ sh f (.loop c) env' mem'
      | some (.ret, env', mem') => some (.ret, env', mem')
      | some (.exit id, env', mem') => some (.exit id, env', mem')
      | none => none
    | _ => none

theorem lk_dedup {α : Type} : ∀ (l : List (Nat × α)) (seen : List Nat) (k : Nat), lk (dedup l seen) k = if seen.contains k then none else lk l k
  | [], seen, k => by simp [dedup, lk]
  | (j, x) :: r, seen, k => by
    simp only [dedup]
    split
    · rename_i hj
      rw [lk_dedup r seen k]
      split
      · rfl
      · rename_i hk
        have : k ≠ j := fun h => hk (h ▸ hj)
        simp [lk, this]
    · rename_i hj
      simp only [lk]
      rw [lk_dedup r (j :: seen) k]
      by_cases hkj : k = j
      · subst hkj
        have : ¬ k ∈ seen := by simpa using hj
        simp [this]
      · simp [hkj]
theorem lk_shM {sh : Nat} : ∀ (mem : ML) (k : Nat), lk (shM sh mem) k = if sh ≤ k then lk mem (k - sh) else none
  | [], k => by simp [shM, lk]
  | (j, x) :: r, k => by
    simp only [shM, List.map_cons, lk]
    have ih := lk_shM (sh := sh) r k
    simp only [shM] at ih
    by_cases h : k = j + sh
    · subst h; simp
    · rw [if_neg h, ih]
      split
      · rename_i hle; rw [if_neg (by omega)]
      · rfl
theorem lk_shE {sh : Nat} : ∀ (env : EL) (k : Nat), lk (shE sh env) k = (lk env k).map (shA sh)
  | [], k => rfl
  | (j, x) :: r, k => by
    simp only [shE, List.map_cons, lk]
    split
    · rfl
    · exact lk_shE r k
theorem RepS.sh {V : Nat → Prop} {β : Nat → Option Nat} {mem : ML} {w : World} {sh : Nat} {av : AV} {v : Value} (h : RepA V β (lk mem) w av v) :
    RepA V (fun k => if sh ≤ k then β (k - sh) else none) (lk (shM sh mem)) w (shA sh av) v := by
  cases av with
  | v x => exact h
  | pt x => trivial
  | rd k l =>
    obtain ⟨A, cap, h1, h2, h3, h4⟩ := h
    refine ⟨A, cap, h1, h2, h3, fun hl => ?_⟩
    obtain ⟨ad, h5, ⟨h6, h7⟩, h8⟩ := h4 hl
    refine ⟨ad, h5, ⟨h6, fun key c hk he => ?_⟩, h8⟩
    rw [lk_shM] at hk
    split at hk
    · rename_i hle
      simp only [hle, if_true] at he
      exact h7 _ c hk he
    · cases hk
  | ref k o =>
    obtain ⟨h1, b, h2, h3⟩ := h
    exact ⟨by rw [lk_shM]; simpa using h1, b, by simpa using h2, h3⟩
  | ow k =>
    obtain ⟨c, fr, cap, h1, h2, h3, h4⟩ := h
    exact ⟨c, fr, cap, by rw [lk_shM]; simpa using h1, h2.mono (by simp) (fun b _ => Nat.le_refl _), h3, by simpa using h4⟩
  | al k lo n =>
    obtain ⟨⟨c, fr, h1, h2⟩, A, cap, h3, h4, h5, h6⟩ := h
    exact ⟨⟨c, fr, by rw [lk_shM]; simpa using h1, h2⟩, A, cap, h3, h4, h5.mono (by simp) (fun b _ => Nat.le_refl _), by simpa using h6⟩
  | ows k n =>
    obtain ⟨c, fr, cap, b, h1, h2, h3, h4, h5⟩ := h
    exact ⟨c, fr, cap, b, by rw [lk_shM]; simpa using h1, by simpa using h2, h3, h4, h5⟩
  | tup l => trivial
  | dead => trivial
theorem ent_sh (sh : Nat) (env : EL) (mem : ML) : Ent env mem (shE sh (dedup env [])) (shM sh (dedup mem [])) := by
  have he : ∀ k, lk (shE sh (dedup env [])) k = (lk env k).map (shA sh) := fun k => by rw [lk_shE, lk_dedup]; simp
  have hm : lk (shM sh (dedup mem [])) = lk (shM sh mem) := by
    funext k; rw [lk_shM, lk_shM, lk_dedup]; simp
  rintro V w0 N a w ⟨β, h⟩
  refine ⟨fun k => if sh ≤ k then β (k - sh) else none, h.fresh, h.below, h.size, h.defers, ?_, ?_, ?_⟩
  · rw [hm]
    intro key c fr hk
    rw [lk_shM] at hk
    split at hk
    · rename_i hle
      have := h.mem _ c fr hk
      simpa [hle] using this
    · cases hk
  · rw [hm]
    intro k k' b h1 h2 e1 e2
    rw [lk_shM] at h1 h2
    simp only at e1 e2
    split at h1
    · split at h2
      · rename_i hk hk'
        rw [if_pos hk] at e1
        rw [if_pos hk'] at e2
        have := h.inj _ _ b h1 h2 e1 e2
        omega
      · cases h2
    · cases h1
  · intro k av hk
    rw [hm]
    rw [he] at hk
    obtain ⟨av0, h1, rfl⟩ := Option.map_eq_some_iff.1 hk
    obtain ⟨v, h2, h3⟩ := h.slots k av0 h1
    exact ⟨v, h2, RepS.sh h3⟩
theorem stB_ok {c : Ct} {off : Nat} {xs : List Value} {pc : Prop × Ct} (h : stAt c off xs = some pc) (hb : stB c off xs.length = true) : pc.1 := by
  unfold stAt at h; unfold stB at hb
  cases c with
  | vals l => simp only at h hb; cases h; simpa using hb
  | ints k l =>
    simp only at h hb
    split at h
    · split at h <;> cases h; simpa using hb
    · cases h
theorem rOne_ok {o : Oper} {env : EL} {mem : ML} {x : EL × ML} {k : EL → ML → Prop} (hF : Free Γ) (h : rOne ty Γ o env mem = some x) (hk : k x.1 x.2) : aOne ty Γ o env mem k := by
  obtain ⟨dst, op, t, pos, after, g⟩ := o
  cases dst with
  | some d =>
    simp only [rOne] at h
    cases hsp : isSp op with
    | true =>
      rw [hsp, if_pos rfl] at h
      rw [aOne_sp hsp]
      split at h
      · rename_i s hs
        split at h
        · rename_i hb
          cases h
          simp only [bindP, hs]
          exact ⟨spB_ok hs hb, hk⟩
        · cases h
      · cases h
    | false =>
    rw [hsp, if_neg (by simp)] at h
    rw [aOne_dst hsp]
    split at h
    · rename_i out hs
      split at h
      · rename_i hc
        simp only [Bool.and_eq_true] at hc
        cases h
        simp only [hs, bindO]
        exact ⟨preB_ok hF hs hc.1, freshB_ok hc.2, hk⟩
      · cases h
    · cases h
  | none =>
    cases op <;> simp only [rOne] at h <;> try (cases h; done)
    case store t' x' y =>
      split at h
      · rename_i key off v hx hy
        split at h
        · rename_i c hm
          split at h
          · rename_i hst
            split at h
            · rename_i key' p c' hs
              cases h
              simp only [aOne, hs, bindS]
              refine ⟨?_, hk⟩
              unfold aStore at hs
              simp only [hx, hy, hm] at hs
              split at hs
              · obtain ⟨⟨p', c''⟩, h3, h4⟩ := Option.map_eq_some_iff.1 hs
                cases h4
                exact stB_ok h3 hst
              · cases hs
            · cases h
          · cases h
        · cases h
      · cases h
theorem rOps_ok {all : List Oper} {K : EL → ML → Prop} (hF : Free Γ) : ∀ {l : List Oper} {env : EL} {mem : ML} {x : EL × ML}, rOps ty Γ all l env mem = some x → K x.1 x.2 → awpOps ty Γ all K l env mem
  | [], env, mem, x, h, hk => by cases h; exact hk
  | o :: r, env, mem, x, h, hk => by
    unfold rOps at h
    unfold awpOps
    split at h <;> rename_i hg <;> rw [hg] <;> simp only [Bg]
    · obtain ⟨y, hy, h⟩ := Option.bind_eq_some_iff.1 h
      exact rOne_ok hF hy (rOps_ok hF h hk)
    · obtain ⟨y, hy, h⟩ := Option.bind_eq_some_iff.1 h
      exact ⟨fun _ => rOne_ok hF hy (rOps_ok hF h hk), fun h => by cases h⟩
    · exact ⟨fun h => (by cases h), fun _ => rOps_ok hF h hk⟩
    · exact rOps_ok hF h hk
    · cases h
theorem dOneB_ok {mem0 : ML} {i : Nat} {o : Oper} {rd wr : NNs} {env : EL} {mem : ML} {x : (NNs × NNs) × EL × ML} {k : DK} (hF : Free Γ) (h : dOneB ty Γ mem0 i o rd wr env mem = some x) (hk : k x.1.1 x.1.2 x.2.1 x.2.2) : dOne ty Γ mem0 i o rd wr env mem k := by
  unfold dOneB at h
  split at h
  · rename_i hkeys
    refine ⟨hkeys, ?_⟩
    obtain ⟨dst, op, t, pos, after, g⟩ := o
    cases dst with
    | some d =>
      simp only at h ⊢
      split at h
      · rename_i out hs
        split at h
        · rename_i hc
          simp only [Bool.and_eq_true] at hc
          cases h
          simp only [hs, bindO]
          exact ⟨preB_ok hF hs hc.1.1, ⟨freshB_ok hc.1.2, noFzB_ok hc.2⟩, hk⟩
        · cases h
      · cases h
    | none =>
      simp only at h
      cases op <;> simp only at h <;> try (cases h; done)
      case store t' x' y =>
        split at h
        · rename_i key off v hx hy
          split at h
          · rename_i c hm
            split at h
            · rename_i hst
              simp only [Bool.and_eq_true] at hst
              split at h
              · rename_i key' p c' hs
                split at h
                · rename_i hkk
                  subst hkk
                  cases h
                  simp only [hs, bindS]
                  refine ⟨?_, hst.2, hk⟩
                  unfold aStore at hs
                  simp only [hx, hy, hm] at hs
                  split at hs
                  · obtain ⟨⟨p', c''⟩, h3, h4⟩ := Option.map_eq_some_iff.1 hs
                    cases h4
                    exact stB_ok h3 hst.1.1
                  · cases hs
                · cases h
              · cases h
            · cases h
          · cases h
        · cases h
  · cases h
theorem rD_ok {all : List Oper} {mem0 : ML} {K : EL → ML → Prop} (hF : Free Γ) : ∀ {l : List Oper} {i : Nat} {rd wr : NNs} {env : EL} {mem : ML} {x : EL × ML}, rD ty Γ all mem0 i rd wr l env mem = some x → K x.1 x.2 → awpD ty Γ all mem0 K i rd wr l env mem
  | [], i, rd, wr, env, mem, x, h, hk => by cases h; exact hk
  | o :: r, i, rd, wr, env, mem, x, h, hk => by
    unfold rD at h
    unfold awpD
    split at h <;> rename_i hg <;> rw [hg] <;> simp only [Bg]
    · obtain ⟨y, hy, h⟩ := Option.bind_eq_some_iff.1 h
      exact dOneB_ok hF hy (rD_ok hF h hk)
    · obtain ⟨y, hy, h⟩ := Option.bind_eq_some_iff.1 h
      exact ⟨fun _ => dOneB_ok hF hy (rD_ok hF h hk), fun h => by cases h⟩
    · exact ⟨fun h => (by cases h), fun _ => rD_ok hF h hk⟩
    · exact rD_ok hF h hk
    · cases h
theorem Brk_mono {t : Bool} {a b a' b' : Prop} (h : Brk t a b) (ha : a → a') (hb : b → b') : Brk t a' b' := ⟨fun h0 => ha (h.1 h0), fun h0 => hb (h.2 h0)⟩
theorem bindG_mono {g : GR} {a b c d a' b' c' d' : Prop} (h : Bg g a b c d) (ha : a → a') (hb : b → b') (hc : c → c') (hd : d → d') : Bg g a' b' c' d' := by
  cases g with
  | no => exact ha h
  | off => exact hd h
  | bad => exact h
  | tt t => exact Brk_mono h hb hc
theorem bindO_mono {o : Option Out} {k k' : AV → ML → Prop} (h : bindO o k) (hk : ∀ a m, k a m → k' a m) : bindO o k' := by
  cases o with
  | none => exact h
  | some out => exact ⟨h.1, hk _ _ h.2⟩
theorem aOne_mono {o : Oper} {env : EL} {mem : ML} {k k' : EL → ML → Prop} (h : aOne ty Γ o env mem k) (hk : ∀ e m, k e m → k' e m) : aOne ty Γ o env mem k' := by
  obtain ⟨dst, op, t, pos, after, g⟩ := o
  cases dst with
  | some d =>
    cases hsp : isSp op with
    | true =>
      rw [aOne_sp hsp] at h ⊢
      unfold bindP at h ⊢
      split at h
      · exact ⟨h.1, hk _ _ h.2⟩
      · exact h
    | false =>
      rw [aOne_dst hsp] at h ⊢
      exact bindO_mono h fun a m h => ⟨h.1, hk _ _ h.2⟩
  | none =>
    cases op <;> first | exact (h : False).elim | skip
    case store t' x y =>
      simp only [aOne] at h ⊢
      unfold bindS at h ⊢
      split at h
      · exact ⟨h.1, hk _ _ h.2⟩
      · exact h
theorem awpOps_mono {all : List Oper} {K K' : EL → ML → Prop} (hK : ∀ e m, K e m → K' e m) : ∀ {l : List Oper} {env : EL} {mem : ML}, awpOps ty Γ all K l env mem → awpOps ty Γ all K' l env mem
  | [], _, _, h => hK _ _ h
  | o :: r, env, mem, h => bindG_mono h (fun h => aOne_mono h fun _ _ => awpOps_mono hK) (fun h => aOne_mono h fun _ _ => awpOps_mono hK) (awpOps_mono hK) (awpOps_mono hK)
theorem dOne_mono {mem0 : ML} {i : Nat} {o : Oper} {rd wr : NNs} {env : EL} {mem : ML} {k k' : DK} (h : dOne ty Γ mem0 i o rd wr env mem k) (hk : ∀ rd wr e m, k rd wr e m → k' rd wr e m) : dOne ty Γ mem0 i o rd wr env mem k' := by
  obtain ⟨h1, h2⟩ := h
  refine ⟨h1, ?_⟩
  obtain ⟨dst, op, t, pos, after, g⟩ := o
  cases dst with
  | some d => exact bindO_mono h2 fun a m h => ⟨h.1, hk _ _ _ _ h.2⟩
  | none =>
    cases op <;> first | exact (h2 : False).elim | skip
    case store t x y =>
      simp only at h2 ⊢
      unfold bindS at h2 ⊢
      split at h2
      · exact ⟨h2.1, h2.2.1, hk _ _ _ _ h2.2.2⟩
      · exact h2
theorem awpD_mono {all : List Oper} {mem0 : ML} {K K' : EL → ML → Prop} (hK : ∀ e m, K e m → K' e m) : ∀ {l : List Oper} {i : Nat} {rd wr : NNs} {env : EL} {mem : ML}, awpD ty Γ all mem0 K i rd wr l env mem → awpD ty Γ all mem0 K' i rd wr l env mem
  | [], _, _, _, _, _, h => hK _ _ h
  | o :: r, i, rd, wr, env, mem, h => by
    unfold awpD at h ⊢
    exact bindG_mono h (fun h => dOne_mono h fun _ _ _ _ => awpD_mono hK) (fun h => dOne_mono h fun _ _ _ _ => awpD_mono hK) (awpD_mono hK) (awpD_mono hK)
theorem awp_mono {c : Code} : ∀ {Q Q' : Post} {env : EL} {mem : ML}, (∀ ex e m, Q ex e m → Q' ex e m) → awp ty Γ c Q env mem → awp ty Γ c Q' env mem := by
  induction c with
  | skip => intro Q Q' env mem hQ h; exact hQ _ _ _ h
  | ret => intro Q Q' env mem hQ h; exact hQ _ _ _ h
  | exit id => intro Q Q' env mem hQ h; exact hQ _ _ _ h
  | seq a b iha ihb =>
    intro Q Q' env mem hQ h
    refine iha (fun ex e m h => ?_) h
    cases ex with
    | normal => obtain ⟨e0, m0, h0, h1⟩ := h; exact ⟨e0, m0, h0, ihb hQ h1⟩
    | exit id => exact hQ _ _ _ h
    | ret => exact hQ _ _ _ h
  | block id c ih =>
    intro Q Q' env mem hQ h
    refine ih (fun ex e m h => ?_) h
    cases ex with
    | normal => exact hQ _ _ _ h
    | ret => exact hQ _ _ _ h
    | exit j =>
      simp only [blockP] at h ⊢
      split
      · rename_i hj; rw [if_pos hj] at h; exact hQ _ _ _ h
      · rename_i hj; rw [if_neg hj] at h; exact hQ _ _ _ h
  | cond x a b iha ihb =>
    intro Q Q' env mem hQ h
    simp only [awp] at h ⊢
    unfold aCond at h ⊢
    split at h
    · exact Brk_mono h (iha hQ) (ihb hQ)
    · exact h
  | region id ops dr =>
    intro Q Q' env mem hQ h
    cases dr with
    | false => exact awpOps_mono (hQ _) h
    | true => exact ⟨h.1, awpD_mono (hQ _) h.2⟩
  | loop c ih =>
    intro Q Q' env mem hQ h
    obtain ⟨ι, E, M, μ, i0, h0, hr⟩ := h
    refine ⟨ι, E, M, μ, i0, h0, fun i => ih (fun ex e m h => ?_) (hr i)⟩
    cases ex with
    | normal => exact h
    | exit id => exact hQ _ _ _ h
    | ret => exact hQ _ _ _ h
  | _ => intro Q Q' env mem hQ h; simp only [awp] at h
theorem awp_loop_more {c : Code} {Q : Post} {env env1 env2 : EL} {mem mem1 mem2 : ML} (he : Ent env mem env1 mem1) (h1 : ∀ Q' : Post, (Q' .normal env2 mem2) → awp ty Γ c Q' env1 mem1) (h2 : awp ty Γ (.loop c) Q env2 mem2) : awp ty Γ (.loop c) Q env mem := by
  obtain ⟨ι, E, M, μ, i0, h0, hr⟩ := h2
  refine ⟨Option ι, fun i => i.elim env1 E, fun i => i.elim mem1 M, fun i => i.elim (μ i0 + 1) μ, none, he, fun i => ?_⟩
  cases i with
  | none => exact h1 _ ⟨some i0, h0, Nat.lt_succ_self _⟩
  | some i =>
    have post : loopP E M μ i Q = loopP E M μ i Q := rfl
    have := hr i
    refine awp_mono ?_ this
    intro e env mem hq
    cases e with
    | normal => obtain ⟨j, h3, h4⟩ := hq; exact ⟨some j, h3, h4⟩
    | exit id => exact hq
    | ret => exact hq
theorem awp_loop_out {c : Code} {Q : Post} {ex : Ex} {env env1 env2 : EL} {mem mem1 mem2 : ML} (hex : ex ≠ .normal) (he : Ent env mem env1 mem1) (h1 : ∀ Q' : Post, (Q' ex env2 mem2) → awp ty Γ c Q' env1 mem1) (h2 : Q ex env2 mem2) : awp ty Γ (.loop c) Q env mem := by
  refine ⟨Unit, fun _ => env1, fun _ => mem1, fun _ => 0, (), he, fun _ => h1 _ ?_⟩
  cases ex with
  | normal => exact absurd rfl hex
  | exit id => exact h2
  | ret => exact h2
theorem rev_ok (hF : Free Γ) {sh : Nat} : ∀ (f : Nat) (c : Code) (env : EL) (mem : ML) (ex : Ex) (env' : EL) (mem' : ML), rev ty Γ sh f c env mem = some (ex, env', mem') → ∀ Q : Post, Q ex env' mem' → awp ty Γ c Q env mem := by
  intro f
  induction f with
  | zero => intro c env mem ex env' mem' h; cases h
  | succ f ih =>
    intro c env mem ex env' mem' h Q hq
    unfold rev at h
    split at h
    · cases h; exact hq
    · cases h; exact hq
    · cases h; exact hq
    · rename_i a b
      split at h
      · rename_i env1 mem1 h1
        exact ih _ _ _ _ _ _ h1 _ (ZL (ih _ _ _ _ _ _ h _ hq))
      · rename_i env1 mem1 h1
        cases h
        exact ih _ _ _ _ _ _ h1 _ hq
      · rename_i id env1 mem1 h1
        cases h
        exact ih _ _ _ _ _ _ h1 _ hq
      · cases h
    · rename_i id c
      split at h
      · rename_i env1 mem1 h1
        cases h
        exact ih _ _ _ _ _ _ h1 _ hq
      · rename_i env1 mem1 h1
        cases h
        exact ih _ _ _ _ _ _ h1 _ hq
      · rename_i j env1 mem1 h1
        refine ih _ _ _ _ _ _ h1 _ ?_
        simp only [blockP]
        split at h
        · rename_i hj; cases h; rw [if_pos hj]; exact hq
        · rename_i hj; cases h; rw [if_neg hj]; exact hq
      · cases h
    · rename_i x a b
      split at h
      · rename_i hx
        simp only [awp, hx, aCond]
        exact ⟨fun _ => ih _ _ _ _ _ _ h _ hq, fun h => by cases h⟩
      · rename_i hx
        simp only [awp, hx, aCond]
        exact ⟨fun h => (by cases h), fun _ => ih _ _ _ _ _ _ h _ hq⟩
      · cases h
    · rename_i id ops dr
      split at h
      · obtain ⟨x, hx, h⟩ := Option.map_eq_some_iff.1 h
        cases h
        exact rOps_ok hF hx hq
      · split at h
        · rename_i hd
          obtain ⟨x, hx, h⟩ := Option.map_eq_some_iff.1 h
          cases h
          exact ⟨hd, rD_ok hF hx hq⟩
        · cases h
    · rename_i c
      split at h
      · rename_i env1 mem1 h1
        exact awp_loop_more (ent_sh sh env mem) (fun Q' hq' => ih _ _ _ _ _ _ h1 Q' hq') (ih _ _ _ _ _ _ h Q hq)
      · rename_i env1 mem1 h1
        cases h
        exact awp_loop_out (by simp) (ent_sh sh env mem) (fun Q' hq' => ih _ _ _ _ _ _ h1 Q' hq') hq
      · rename_i id env1 mem1 h1
        cases h
        exact awp_loop_out (by simp) (ent_sh sh env mem) (fun Q' hq' => ih _ _ _ _ _ _ h1 Q' hq') hq
      · cases h
    · cases h
end Go.AM
namespace Go.AM
variable [Lay]
variable {P : Program} {ty : Ty} {Γ : Gam}
def rvOf (ty : Ty) (e : Env) (m : Mem) : ResultVar → Option RV
  | .tmp t => match e t with
    | some (.v x) => some (.v x)
    | some (.rd k l) => some (.view k l)
    | some (.ow key) => match m key with
      | some (.ints k l, _) => some (.fresh k l)
      | _ => none
    | some (.ows key n) => match m key with
      | some (.vals l, _) => some (.cells n l)
      | _ => none
    | some (.al key lo n) => match m key with
      | some (.ints k l, _) => if lo = 0 then some (.fresh k (l.take n)) else some (.view k ((l.drop lo).take n))
      | _ => none
    | _ => none
  | .cell t u => match e t, ty u with
    | some (.ref key off), some i => match m key with
      | some (c, _) => match ldAt c off i.size i.agg with
        | some pv => if ldB c off i.size i.agg then some (.v pv.2) else none
        | none => none
      | none => none
    | _, _ => none
def rvsOf (ty : Ty) (e : Env) (m : Mem) : List ResultVar → Option (List RV)
  | [] => some []
  | v :: vs => match rvOf ty e m v, rvsOf ty e m vs with
    | some r, some rs => some (r :: rs)
    | _, _ => none
def toView : RV → RV
  | .fresh k l => .view k l
  | r => r
def unmix (rs : List RV) : List RV := if rs.any RV.isView && rs.any RV.isFresh then rs.map toView else rs
def resOf (ty : Ty) (e : Env) (m : Mem) (vs : List ResultVar) : Option Res := match rvsOf ty e m vs with
  | some [r] => some (.one r)
  | some rs => if nodupN (rKeys e vs (unmix rs)) then some (.many (unmix rs)) else none
  | none => none
theorem rvOf_ok {e : Env} {m : Mem} {v : ResultVar} {r : RV} (h : rvOf ty e m v = some r) : rvOk ty e m v r := by
  cases v with
  | tmp t =>
    simp only [rvOf] at h
    split at h
    · rename_i x he; cases h; simp only [rvOk, he]
    · rename_i k l he; cases h; simp only [rvOk, he]; exact ⟨trivial, trivial⟩
    · rename_i key he
      split at h
      · rename_i k l fr hm; cases h; simp only [rvOk, he, hm]; exact ⟨trivial, trivial⟩
      · cases h
    · rename_i key n he
      split at h
      · rename_i l fr hm; cases h; simp only [rvOk, he, hm]; exact ⟨trivial, trivial⟩
      · cases h
    · rename_i key lo n he
      split at h
      · rename_i k l fr hm
        split at h
        · rename_i h0; cases h; simp only [rvOk, he, hm]; exact ⟨h0, trivial, trivial⟩
        · cases h; simp only [rvOk, he, hm]; exact ⟨trivial, trivial⟩
      · cases h
    · cases h
  | cell t u =>
    simp only [rvOf] at h
    split at h
    · rename_i key off i he hu
      split at h
      · rename_i c fr hm
        split at h
        · rename_i pv hl
          split at h
          · rename_i hb
            cases h
            simp only [rvOk, he, hu, hm, hl]
            exact ⟨ldB_ok hl hb, trivial⟩
          · cases h
        · cases h
      · cases h
    · cases h
theorem rvsOf_ok {e : Env} {m : Mem} : ∀ {vs : List ResultVar} {rs : List RV}, rvsOf ty e m vs = some rs → rvsOk ty e m vs rs ∧ vs.length = rs.length
  | [], rs, h => by cases h; exact ⟨trivial, rfl⟩
  | v :: vs, rs, h => by
    simp only [rvsOf] at h
    split at h
    · rename_i r rs' h1 h2
      cases h
      obtain ⟨h3, h4⟩ := rvsOf_ok h2
      exact ⟨⟨rvOf_ok h1, h3⟩, by simp [h4]⟩
    · cases h
theorem toView_ok {e : Env} {m : Mem} {v : ResultVar} {r : RV} (h : rvOk ty e m v r) : rvOk ty e m v (toView r) := by
  cases r with
  | fresh k l =>
    cases v with
    | cell t u => simp only [rvOk] at h
    | tmp t =>
      simp only [rvOk, toView] at h ⊢
      split at h
      · rename_i key he
        rw [he]; exact h
      · rename_i key lo n he
        rw [he]
        simp only
        split at h
        · rename_i k' l' fr hm
          obtain ⟨rfl, rfl, h3⟩ := h
          exact ⟨rfl, by simpa using h3⟩
        · exact h.elim
      · rename_i he
        rw [he]; exact h
      · exact h.elim
  | _ => exact h
theorem toViews_ok {e : Env} {m : Mem} : ∀ {vs : List ResultVar} {rs : List RV}, rvsOk ty e m vs rs → rvsOk ty e m vs (rs.map toView)
  | [], [], _ => trivial
  | [], _ :: _, h => h.elim
  | _ :: _, [], h => h.elim
  | v :: vs, r :: rs, h => ⟨toView_ok h.1, toViews_ok h.2⟩
theorem unmix_ok {e : Env} {m : Mem} {vs : List ResultVar} {rs : List RV} (h : rvsOk ty e m vs rs) : rvsOk ty e m vs (unmix rs) := by
  unfold unmix
  split
  · exact toViews_ok h
  · exact h
theorem resOf_ok {e : Env} {m : Mem} {vs : List ResultVar} {r : Res} (h : resOf ty e m vs = some r) : resOk ty e m vs r := by
  unfold resOf at h
  split at h
  · rename_i r hr
    cases h
    obtain ⟨h1, h2⟩ := rvsOf_ok hr
    match vs, h1, h2 with
    | [v], h1, h2 => exact h1.1
  · rename_i rs hne hr
    split at h
    · rename_i hn
      cases h
      obtain ⟨h1, h2⟩ := rvsOf_ok hr
      refine ⟨fun h3 => ?_, unmix_ok h1, hn⟩
      rw [h2] at h3
      match rs, h3 with
      | [r], _ => exact hne r rfl
    · cases h
  · cases h
def runF (ty : Ty) (Γ : Gam) (fuel : Nat) (fn : Func) : Cs := fun ds => match fn.body with
  | some c => if ds.length ≤ fn.ntmps then (match rev ty Γ (16 * fn.ntmps) fuel c (entry 0 ds) [] with
    | some (.normal, env, mem) => (resOf ty (lk env) (lk mem) fn.results.toList).map fun r => (True, r)
    | some (.ret, env, mem) => (resOf ty (lk env) (lk mem) fn.results.toList).map fun r => (True, r)
    | _ => none) else none
  | none => none
abbrev Bodies := List (Nat × Func)
def GamN (ty : Ty) (fuel : Nat) (bodies : Bodies) (ext : Gam) : Nat → Gam
  | 0 => ext
  | n + 1 => (bodies.map fun p => (p.1, Fk.body, runF ty (GamN ty fuel bodies ext n) fuel p.2)) ++ ext
def BodiesOk (P : Program) (l : Bodies) : Prop := ∀ p ∈ l, P.funcs[p.1]? = some p.2 ∧ (p.2.name == "runtime.NumGoroutine") = false ∧ (∀ c, p.2.body = some c → dstsLt p.2.ntmps c = true)
def dstsB (fn : Func) : Bool := match fn.body with
  | some c => dstsLt fn.ntmps c
  | none => false
theorem dstsB_ok {fn : Func} (h : dstsB fn = true) (c : Code) (hc : fn.body = some c) : dstsLt fn.ntmps c = true := by
  unfold dstsB at h
  rw [hc] at h
  exact h
theorem lk_bodies {g : Func → Cs} : ∀ {l : Bodies} {f : Nat} {fk : Fk} {spec : Cs}, lk (l.map fun p => (p.1, Fk.body, g p.2)) f = some (fk, spec) → ∃ fn, (f, fn) ∈ l ∧ fk = .body ∧ spec = g fn
  | [], f, fk, spec, h => by cases h
  | (j, fn) :: l, f, fk, spec, h => by
    simp only [List.map_cons, lk] at h
    split at h
    · rename_i he; subst he; cases h; exact ⟨fn, by simp, rfl, rfl⟩
    · obtain ⟨fn', h1, h2, h3⟩ := lk_bodies h; exact ⟨fn', by simp [h1], h2, h3⟩
theorem runF_sound {f fuel : Nat} {fn : Func} (hm : P.follows .mixedOrders = true) (hty : TysOk P ty) (hΓ : Gk P Γ) (hF : Free Γ) (hf : P.funcs[f]? = some fn) (hn : (fn.name == "runtime.NumGoroutine") = false) (hN : ∀ c, fn.body = some c → dstsLt fn.ntmps c = true) (hb : fn.body.isSome = true) :
    Sound P f .body (runF ty Γ fuel fn) := by
  obtain ⟨c, hc⟩ := Option.isSome_iff_exists.1 hb
  refine sound_body hf hc hn hty hΓ (drawOk_ok hm hty hΓ) (hN c hc) fun ds p r hs hp => ?_
  unfold runF at hs
  rw [hc] at hs
  simp only at hs
  split at hs
  · rename_i hlen
    refine ⟨hlen, ?_⟩
    split at hs
    · rename_i env mem hr
      obtain ⟨r', h1, h2⟩ := Option.map_eq_some_iff.1 hs
      cases h2
      exact rev_ok hF _ _ _ _ _ _ _ hr _ (resOf_ok h1)
    · rename_i env mem hr
      obtain ⟨r', h1, h2⟩ := Option.map_eq_some_iff.1 hs
      cases h2
      exact rev_ok hF _ _ _ _ _ _ _ hr _ (resOf_ok h1)
    · cases hs
  · cases hs
theorem runF_free {fuel : Nat} {fn : Func} {ds : List DV} {p : Prop} {r : Res} (h : runF ty Γ fuel fn ds = some (p, r)) : p := by
  unfold runF at h
  split at h
  · split at h
    · split at h
      · obtain ⟨r', h1, h2⟩ := Option.map_eq_some_iff.1 h; cases h2; trivial
      · obtain ⟨r', h1, h2⟩ := Option.map_eq_some_iff.1 h; cases h2; trivial
      · cases h
    · cases h
  · cases h
theorem GamN_ok {fuel : Nat} {bodies : Bodies} {ext : Gam} (hm : P.follows .mixedOrders = true) (hty : TysOk P ty) (hext : Gk P ext) (hfree : Free ext) (hbo : BodiesOk P bodies) (hsome : ∀ p ∈ bodies, p.2.body.isSome = true) :
    ∀ n, Gk P (GamN ty fuel bodies ext n) ∧ Free (GamN ty fuel bodies ext n)
  | 0 => ⟨hext, hfree⟩
  | n + 1 => by
    obtain ⟨h1, h2⟩ := GamN_ok hm hty hext hfree hbo hsome (fuel := fuel) n
    constructor
    · intro f fk spec h
      simp only [GamN] at h
      rw [lk_app] at h
      rcases Option.or_eq_some_iff.1 h with h | ⟨_, h⟩
      · obtain ⟨fn, h3, rfl, rfl⟩ := lk_bodies h
        obtain ⟨h4, h5, h6⟩ := hbo _ h3
        exact runF_sound hm hty h1 h2 h4 h5 h6 (hsome _ h3)
      · exact hext f fk spec h
    · intro f fk spec ds p r h hs
      simp only [GamN] at h
      rw [lk_app] at h
      rcases Option.or_eq_some_iff.1 h with h | ⟨_, h⟩
      · obtain ⟨fn, h3, rfl, rfl⟩ := lk_bodies h
        exact runF_free hs
      · exact hfree f fk spec ds p r h hs
end Go.AM
namespace Go.AM
variable [Lay]
variable {P : Program} (w : World)
theorem run_partI {el : TypeId} {k : IntKind} (hel : P.underlying el = some (.int k)) (hs : (sizeOf el).run P w = .ok 1 w) (hag : (isAgg el).run P w = .ok false w) (xs : Array Value) (i : Nat) (v : Value) (hv : xs[i]? = some v) :
    (part el xs i).run P w = .ok v w := by
  unfold part
  simp [Sem.run_bind, hs, hag, hv]
theorem eq4 {t el : TypeId} {k : IntKind} (ht : P.underlying t = some (.array 4 el)) (hel : P.underlying el = some (.int k)) (hs : ∀ w, (sizeOf el).run P w = .ok 1 w) (hag : ∀ w, (isAgg el).run P w = .ok false w) (a0 a1 a2 a3 b0 b1 b2 b3 : Int) :
    (Op.equal t (.agg #[.int k a0, .int k a1, .int k a2, .int k a3]) (.agg #[.int k b0, .int k b1, .int k b2, .int k b3])).run P w = .ok ((a0 == b0) && ((a1 == b1) && ((a2 == b2) && ((a3 == b3) && true)))) w := by
  have e1 : ∀ (a b : Int), (Op.equalIn (9998 + 1) el (.int k a) (.int k b)).run P w = .ok (a == b) w := fun a b => run_equalIn_int w 9998 el k k a b hel
  have p : ∀ (xs : Array Value) (i : Nat) (v : Value), xs[i]? = some v → (part el xs i).run P w = .ok v w := fun xs i v hv => run_partI w hel (hs w) (hag w) xs i v hv
  simp only [Op.equal, Op.maxDepth]
  unfold Op.equalIn
  simp only [Sem.run_bind, run_underlying ht, Result.andThen_ok, hs]
  simp [Std.Legacy.Range.forIn_eq_forIn_range', List.range', Sem.run_bind]
  have q : ∀ (v0 v1 v2 v3 : Value), (part el #[v0, v1, v2, v3] 0).run P w = .ok v0 w ∧ (part el #[v0, v1, v2, v3] 1).run P w = .ok v1 w ∧ (part el #[v0, v1, v2, v3] 2).run P w = .ok v2 w ∧ (part el #[v0, v1, v2, v3] 3).run P w = .ok v3 w :=
    fun v0 v1 v2 v3 => ⟨p _ 0 _ rfl, p _ 1 _ rfl, p _ 2 _ rfl, p _ 3 _ rfl⟩
  simp only [q, e1, Result.andThen_ok, Sem.run_bind]
  cases h0 : (a0 == b0) <;> cases h1 : (a1 == b1) <;> cases h2 : (a2 == b2) <;> cases h3 : (a3 == b3) <;> simp_all
theorem fits4 {k : IntKind} {l : List Value} (h : fits [.int k, .int k, .int k, .int k] l = true) : ∃ a0 a1 a2 a3, l = [.int k a0, .int k a1, .int k a2, .int k a3] := by
  have step : ∀ {r : List LK} {l : List Value}, fits (.int k :: r) l = true → ∃ a l', l = .int k a :: l' ∧ fits r l' = true := by
    intro r l h
    cases l with
    | nil => simp [fits] at h
    | cons x l =>
      cases x <;> simp only [fits, Bool.false_eq_true] at h
      rename_i k' a
      simp only [Bool.and_eq_true, beq_iff_eq] at h
      exact ⟨a, l, by rw [h.1], h.2⟩
  obtain ⟨a0, l0, rfl, h0⟩ := step h
  obtain ⟨a1, l1, rfl, h1⟩ := step h0
  obtain ⟨a2, l2, rfl, h2⟩ := step h1
  obtain ⟨a3, l3, rfl, h3⟩ := step h2
  cases l3 with
  | nil => exact ⟨a0, a1, a2, a3, rfl⟩
  | cons x l => simp [fits] at h3
theorem eq4_ok {t el : TypeId} {k : IntKind} {P : Program} (ht : P.underlying t = some (.array 4 el)) (hel : P.underlying el = some (.int k)) (hs : ∀ w, (sizeOf el).run P w = .ok 1 w) (hag : ∀ w, (isAgg el).run P w = .ok false w)
    (xs ys : Array Value) (b : Bool) (w : World) (hx : fits [.int k, .int k, .int k, .int k] xs.toList = true) (hy : fits [.int k, .int k, .int k, .int k] ys.toList = true) (hb : leafEq xs.toList ys.toList = some b) : (Op.equal t (.agg xs) (.agg ys)).run P w = .ok b w := by
  obtain ⟨a0, a1, a2, a3, e1⟩ := fits4 hx
  obtain ⟨b0, b1, b2, b3, e2⟩ := fits4 hy
  obtain ⟨xs⟩ := xs
  obtain ⟨ys⟩ := ys
  simp only at e1 e2
  subst e1 e2
  have := eq4 w ht hel hs hag a0 a1 a2 a3 b0 b1 b2 b3
  rw [this]
  simp [leafEq] at hb
  simp [← hb]
end Go.AM
namespace Go.AM
variable [Lay]
variable {P : Program}
theorem run_part1 {el : TypeId} (w : World) (hs : (sizeOf el).run P w = .ok 1 w) (hag : (isAgg el).run P w = .ok false w) (xs : Array Value) (i : Nat) (v : Value) (hv : xs[i]? = some v) :
    (part el xs i).run P w = .ok v w := by
  unfold part
  simp [Sem.run_bind, hs, hag, hv]
theorem run_part4 {el : TypeId} (w : World) (hs : (sizeOf el).run P w = .ok 4 w) (hag : (isAgg el).run P w = .ok true w) (xs : Array Value) (i : Nat) :
    (part el xs i).run P w = .ok (.agg (xs.extract i (i + 4))) w := by
  unfold part
  simp [Sem.run_bind, hs, hag]
theorem eq4d (w : World) {t el : TypeId} {k : IntKind} (d : Nat) (ht : P.underlying t = some (.array 4 el)) (hel : P.underlying el = some (.int k)) (hs : ∀ w, (sizeOf el).run P w = .ok 1 w) (hag : ∀ w, (isAgg el).run P w = .ok false w) (a0 a1 a2 a3 b0 b1 b2 b3 : Int) :
    (Op.equalIn (d + 2) t (.agg #[.int k a0, .int k a1, .int k a2, .int k a3]) (.agg #[.int k b0, .int k b1, .int k b2, .int k b3])).run P w = .ok ((a0 == b0) && ((a1 == b1) && ((a2 == b2) && ((a3 == b3) && true)))) w := by
  have e1 : ∀ (a b : Int), (Op.equalIn (d + 1) el (.int k a) (.int k b)).run P w = .ok (a == b) w := fun a b => run_equalIn_int w d el k k a b hel
  have p : ∀ (xs : Array Value) (i : Nat) (v : Value), xs[i]? = some v → (part el xs i).run P w = .ok v w := fun xs i v hv => run_partI w hel (hs w) (hag w) xs i v hv
  unfold Op.equalIn
  simp only [Sem.run_bind, run_underlying ht, Result.andThen_ok, hs]
  simp [Std.Legacy.Range.forIn_eq_forIn_range', List.range', Sem.run_bind]
  have q : ∀ (v0 v1 v2 v3 : Value), (part el #[v0, v1, v2, v3] 0).run P w = .ok v0 w ∧ (part el #[v0, v1, v2, v3] 1).run P w = .ok v1 w ∧ (part el #[v0, v1, v2, v3] 2).run P w = .ok v2 w ∧ (part el #[v0, v1, v2, v3] 3).run P w = .ok v3 w :=
    fun v0 v1 v2 v3 => ⟨p _ 0 _ rfl, p _ 1 _ rfl, p _ 2 _ rfl, p _ 3 _ rfl⟩
  simp only [q, e1, Result.andThen_ok, Sem.run_bind]
  cases h0 : (a0 == b0) <;> cases h1 : (a1 == b1) <;> cases h2 : (a2 == b2) <;> cases h3 : (a3 == b3) <;> simp_all
def One (P : Program) (t : TypeId) (a : LK) : Prop := (match a with | .int k => P.underlying t = some (.int k) | .bool => P.underlying t = some .bool | .str => P.underlying t = some .string) ∧ (∀ w, (sizeOf t).run P w = .ok 1 w) ∧ ∀ w, (isAgg t).run P w = .ok false w
def FA (P : Program) : List Field → List LK → Nat → Prop
  | [], l, _ => l = []
  | f :: fs, l, k => f.name ≠ "_" ∧ f.offset = k ∧ ((∃ a r, l = a :: r ∧ One P f.type a ∧ FA P fs r (k + 1)) ∨
      ∃ kk r el, l = .int kk :: .int kk :: .int kk :: .int kk :: r ∧ P.underlying f.type = some (.array 4 el) ∧ P.underlying el = some (.int kk) ∧ (∀ w, (sizeOf el).run P w = .ok 1 w) ∧ (∀ w, (isAgg el).run P w = .ok false w) ∧ (∀ w, (sizeOf f.type).run P w = .ok 4 w) ∧ (∀ w, (isAgg f.type).run P w = .ok true w) ∧ FA P fs r (k + 4))
theorem fits_cons {a : LK} {r : List LK} {l : List Value} (h : fits (a :: r) l = true) : ∃ x l', l = x :: l' ∧ fits r l' = true ∧ match a with | .int k => ∃ n, x = .int k n | .bool => ∃ b, x = .bool b | .str => ∃ s, x = .string s := by
  cases l with
  | nil => cases a <;> simp [fits] at h
  | cons x l =>
    refine ⟨x, l, rfl, ?_⟩
    cases a <;> cases x <;> simp only [fits, Bool.false_eq_true, Bool.and_eq_true, beq_iff_eq] at h
    · obtain ⟨e, h2⟩ := h; subst e; exact ⟨h2, _, rfl⟩
    · exact ⟨h, _, rfl⟩
    · exact ⟨h, _, rfl⟩
theorem drop_head {xs : Array Value} {k : Nat} {x : Value} {l : List Value} (h : xs.toList.drop k = x :: l) : xs[k]? = some x ∧ xs.toList.drop (k + 1) = l := by
  constructor
  · have := congrArg (·[0]?) h
    simpa using this
  · rw [← List.drop_drop, h]; rfl
theorem eqFields_ok (d : Nat) (xs ys : Array Value) (w : World) : ∀ (fs : List Field) (l : List LK) (k : Nat) (b : Bool), FA P fs l k → fits l (xs.toList.drop k) = true → fits l (ys.toList.drop k) = true → leafEq (xs.toList.drop k) (ys.toList.drop k) = some b → (Op.eqFields (d + 2) xs ys fs).run P w = .ok b w
  | [], l, k, b, h, hx, hy, hb => by
    subst h
    have e1 : xs.toList.drop k = [] := by cases hl : xs.toList.drop k with
      | nil => rfl
      | cons a r => rw [hl] at hx; simp [fits] at hx
    have e2 : ys.toList.drop k = [] := by cases hl : ys.toList.drop k with
      | nil => rfl
      | cons a r => rw [hl] at hy; simp [fits] at hy
    rw [e1, e2] at hb
    simp [leafEq] at hb
    subst hb
    simp [Op.eqFields]
  | f :: fs, l, k, b, ⟨hn, ho, h⟩, hx, hy, hb => by
    rcases h with ⟨a, r, rfl, ⟨hu, hs, hag⟩, hr⟩ | ⟨kk, r, el, rfl, hu, hel, hs, hag, hs4, hag4, hr⟩
    · obtain ⟨x, l1, e1, hx', fx⟩ := fits_cons hx
      obtain ⟨y, l2, e2, hy', fy⟩ := fits_cons hy
      obtain ⟨x0, x1⟩ := drop_head e1
      obtain ⟨y0, y1⟩ := drop_head e2
      rw [e1, e2] at hb
      rw [← x1] at hx' hb
      rw [← y1] at hy' hb
      have key : ∃ c b', b = (c && b') ∧ leafEq (xs.toList.drop (k + 1)) (ys.toList.drop (k + 1)) = some b' ∧ (Op.equalIn (d + 2) f.type x y).run P w = .ok c w := by
        cases a with
        | int kk =>
          obtain ⟨n, rfl⟩ := fx
          obtain ⟨m, rfl⟩ := fy
          simp only [leafEq, ↓reduceIte, Option.map_eq_some_iff] at hb
          obtain ⟨b', h1, rfl⟩ := hb
          exact ⟨_, b', rfl, h1, run_equalIn_int w (d + 1) f.type kk kk n m hu⟩
        | bool =>
          obtain ⟨n, rfl⟩ := fx
          obtain ⟨m, rfl⟩ := fy
          simp only [leafEq, Option.map_eq_some_iff] at hb
          obtain ⟨b', h1, rfl⟩ := hb
          exact ⟨_, b', rfl, h1, run_equalIn_bool' w (d + 1) f.type n m hu⟩
        | str =>
          obtain ⟨n, rfl⟩ := fx
          obtain ⟨m, rfl⟩ := fy
          simp only [leafEq, Option.map_eq_some_iff] at hb
          obtain ⟨b', h1, rfl⟩ := hb
          refine ⟨_, b', rfl, h1, ?_⟩
          rw [beq_toListBytes]
          exact run_equalIn_string w (d + 1) f.type n m hu
      obtain ⟨c, b', rfl, h1, h2⟩ := key
      have ih := eqFields_ok d xs ys w fs r (k + 1) b' hr hx' hy' h1
      subst ho
      simp only [Op.eqFields, if_pos hn, Sem.run_bind, run_part1 w (hs w) (hag w) xs _ x x0, run_part1 w (hs w) (hag w) ys _ y y0, Result.andThen_ok, h2]
      cases c
      · simp
      · simp [ih]
    · obtain ⟨x0, l0, e0, hx0, fx0⟩ := fits_cons hx
      obtain ⟨x1, l1, e1, hx1, fx1⟩ := fits_cons hx0
      obtain ⟨x2, l2, e2, hx2, fx2⟩ := fits_cons hx1
      obtain ⟨x3, l3, e3, hx3, fx3⟩ := fits_cons hx2
      obtain ⟨y0, m0, g0, hy0, fy0⟩ := fits_cons hy
      obtain ⟨y1, m1, g1, hy1, fy1⟩ := fits_cons hy0
      obtain ⟨y2, m2, g2, hy2, fy2⟩ := fits_cons hy1
      obtain ⟨y3, m3, g3, hy3, fy3⟩ := fits_cons hy2
      subst e1 e2 e3 g1 g2 g3
      obtain ⟨a0, rfl⟩ := fx0
      obtain ⟨a1, rfl⟩ := fx1
      obtain ⟨a2, rfl⟩ := fx2
      obtain ⟨a3, rfl⟩ := fx3
      obtain ⟨c0, rfl⟩ := fy0
      obtain ⟨c1, rfl⟩ := fy1
      obtain ⟨c2, rfl⟩ := fy2
      obtain ⟨c3, rfl⟩ := fy3
      have dx : xs.toList.drop (k + 4) = l3 := by rw [← List.drop_drop, e0]; rfl
      have dy : ys.toList.drop (k + 4) = m3 := by rw [← List.drop_drop, g0]; rfl
      have ex : xs.extract k (k + 4) = #[.int kk a0, .int kk a1, .int kk a2, .int kk a3] := by
        apply Array.ext'
        simp [e0]
      have ey : ys.extract k (k + 4) = #[.int kk c0, .int kk c1, .int kk c2, .int kk c3] := by
        apply Array.ext'
        simp [g0]
      rw [e0, g0] at hb
      simp only [leafEq, ↓reduceIte, Option.map_map, Option.map_eq_some_iff] at hb
      obtain ⟨b', h1, rfl⟩ := hb
      rw [← dx, ← dy] at h1
      rw [← dx] at hx3
      rw [← dy] at hy3
      have ih := eqFields_ok d xs ys w fs r (k + 4) b' hr hx3 hy3 h1
      subst ho
      have h4 := eq4d w d hu hel hs hag a0 a1 a2 a3 c0 c1 c2 c3
      simp only [Op.eqFields, if_pos hn, Sem.run_bind, run_part4 w (hs4 w) (hag4 w) xs, run_part4 w (hs4 w) (hag4 w) ys, Result.andThen_ok, ex, ey, h4, ih]
      cases (a0 == c0) <;> cases (a1 == c1) <;> cases (a2 == c2) <;> cases (a3 == c3) <;> simp [ih]
theorem eqS_ok {t : TypeId} {fs : Array Field} {l : List LK} (ht : P.underlying t = some (.struct fs)) (hp : P.stoodInHeld t = false) (hf : FA P fs.toList l 0)
    (xs ys : Array Value) (b : Bool) (w : World) (hx : fits l xs.toList = true) (hy : fits l ys.toList = true) (hb : leafEq xs.toList ys.toList = some b) : (Op.equal t (.agg xs) (.agg ys)).run P w = .ok b w := by
  have e : P.fieldsOf t = fs := by unfold Program.fieldsOf; rw [ht]
  have h := run_equalIn_struct w 9999 t xs ys (by rw [e]; exact ht) hp
  rw [e] at h
  show (Op.equalIn (9999 + 1) t (.agg xs) (.agg ys)).run P w = _
  rw [h]
  exact eqFields_ok 9997 xs ys w fs.toList l 0 b hf (by simpa using hx) (by simpa using hy) (by simpa using hb)
theorem FA_nil {k : Nat} : FA P [] [] k := rfl
theorem FA_one {f : Field} {fs : List Field} {a : LK} {r : List LK} {k : Nat} (h1 : f.name ≠ "_") (h2 : f.offset = k) (h3 : One P f.type a) (h4 : FA P fs r (k + 1)) : FA P (f :: fs) (a :: r) k := ⟨h1, h2, .inl ⟨a, r, rfl, h3, h4⟩⟩
theorem FA_arr {f : Field} {fs : List Field} {kk : IntKind} {r : List LK} {k : Nat} {el : TypeId} (h1 : f.name ≠ "_") (h2 : f.offset = k) (h3 : P.underlying f.type = some (.array 4 el)) (h4 : P.underlying el = some (.int kk)) (h5 : ∀ w, (sizeOf el).run P w = .ok 1 w) (h6 : ∀ w, (isAgg el).run P w = .ok false w)
    (h7 : ∀ w, (sizeOf f.type).run P w = .ok 4 w) (h8 : ∀ w, (isAgg f.type).run P w = .ok true w) (h : FA P fs r (k + 4)) : FA P (f :: fs) (.int kk :: .int kk :: .int kk :: .int kk :: r) k := ⟨h1, h2, .inr ⟨kk, r, el, rfl, h3, h4, h5, h6, h7, h8, h⟩⟩
end Go.AM
