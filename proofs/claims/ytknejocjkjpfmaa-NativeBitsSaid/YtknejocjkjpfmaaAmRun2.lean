/- Part AmRun2 of the proof: own text. -/
import Derived.Test.YtknejocjkjpfmaaAmRun
set_option linter.all false
namespace Go.AM
variable {P : Program} {ty : Ty} {Γ : Gam}
abbrev EL := List (Nat × AV)
abbrev ML := List (Nat × Ct × Bool)
def freshB (mem : Mem) (d : Nat) : ML → Bool
  | [] => true
  | (k, _, fr) :: r => (fr || (decide (16 * d ≤ k) && decide (k < 16 * d + 16) && (mem k).isNone)) && freshB mem d r
theorem freshB_ok {mem : Mem} {d : Nat} : ∀ {l : ML}, freshB mem d l = true → freshM mem d l
  | [], _ => trivial
  | (k, c, fr) :: r, h => by
    simp only [freshB, Bool.and_eq_true, Bool.or_eq_true, decide_eq_true_eq, Option.isNone_iff_eq_none] at h
    exact ⟨h.1.imp id fun h => ⟨h.1.1, h.1.2, h.2⟩, freshB_ok h.2⟩
def noFzB : ML → Bool
  | [] => true
  | (_, _, fr) :: r => !fr && noFzB r
theorem noFzB_ok : ∀ {l : ML}, noFzB l = true → noFz l
  | [], _ => trivial
  | (k, c, fr) :: r, h => by
    simp only [noFzB, Bool.and_eq_true, Bool.not_eq_true'] at h
    exact ⟨h.1, noFzB_ok h.2⟩
def stB (c : Ct) (off n : Nat) : Bool := match c with
  | .vals l => decide (off + n ≤ l.length)
  | .ints _ l => decide (off < l.length)
def spB (ty : Ty) (env : EL) (mem : ML) (d : Nat) (op : Op) : Bool := match op with
  | .call ⟨.builtin .append, ⟨[x, y]⟩, ⟨[t, _]⟩⟩ => match intSl ty t with
    | some kb => match yInts ⟨lk env, lk mem⟩ kb.1 (opd ⟨lk env, lk mem⟩ y), slLen ⟨lk env, lk mem⟩ (opd ⟨lk env, lk mem⟩ x) with
      | some l', some n => decide ((n + l'.length) * kb.2 ≤ 140737488355328)
      | _, _ => false
    | none => false
  | _ => true
theorem spB_ok {env : EL} {mem : ML} {d : Nat} {op : Op} {s : Sp} (h : aSp ty env mem d op = some s) (hb : spB ty env mem d op = true) : s.pre := by
  unfold aSp at h
  split at h
  · rename_i x y t t'
    split at h
    · unfold spAppend at h
      obtain ⟨kb, hkb, h⟩ := Option.bind_eq_some_iff.1 h
      obtain ⟨l', hl', h⟩ := Option.bind_eq_some_iff.1 h
      simp only [spB, hkb, hl'] at hb
      split at h
      · rename_i hx
        split at h
        · cases h
          rw [hx] at hb
          simp only [slLen, decide_eq_true_eq] at hb
          simpa using hb
        · cases h
      · rename_i key hx
        split at h
        · rename_i k2 l hm
          split at h
          · cases h
            rw [hx] at hb
            simp only [slLen, hm, Option.map_some, Ct.len, decide_eq_true_eq] at hb
            exact hb
          · cases h
        · cases h
      · cases h
    · cases h
  · unfold spCopy at h
    obtain ⟨kb, hkb, h⟩ := Option.bind_eq_some_iff.1 h
    obtain ⟨l', hl', h⟩ := Option.bind_eq_some_iff.1 h
    split at h
    · split at h
      · obtain ⟨_, _, rfl⟩ := Option.map_eq_some_iff.1 h; trivial
      · cases h
    · split at h
      · obtain ⟨_, _, rfl⟩ := Option.map_eq_some_iff.1 h; trivial
      · cases h
    · cases h
  · cases h
/-- One operation, run. -/
def rOne (ty : Ty) (Γ : Gam) (o : Oper) (env : EL) (mem : ML) : Option (EL × ML) :=
  match o.dst, o.op with
  | some d, op => if isSp op then (match aSp ty env mem d op with
      | some s => if spB ty env mem d op then some ((d, s.av) :: s.env, (s.key, s.ct, false) :: mem) else none
      | none => none)
    else match aStep ty Γ ⟨lk env, lk mem⟩ d op with
    | some out => if preB ty Γ ⟨lk env, lk mem⟩ op && freshB (lk mem) d out.mem then some ((d, out.av) :: env, out.mem ++ mem) else none
    | none => none
  | none, .store t x y => match opd ⟨lk env, lk mem⟩ x, valOf (opd ⟨lk env, lk mem⟩ y) with
    | .ref key off, some v => match lk mem key with
      | some (c, false) => if stB c off (vcells v).length then (match aStore ty ⟨lk env, lk mem⟩ t x y with
        | some (key, _, c) => some (env, (key, c, false) :: mem)
        | none => none) else none
      | _ => none
    | _, _ => none
  | none, _ => none
def rOps (ty : Ty) (Γ : Gam) (all : List Oper) : List Oper → EL → ML → Option (EL × ML)
  | [], env, mem => some (env, mem)
  | o :: r, env, mem => match aGuard all ⟨lk env, lk mem⟩ o.guard with
    | .no => (rOne ty Γ o env mem).bind fun x => rOps ty Γ all r x.1 x.2
    | .tt true => (rOne ty Γ o (gset all o.guard true ++ env) mem).bind fun x => rOps ty Γ all r x.1 x.2
    | .tt false => rOps ty Γ all r (skipE o.dst (gset all o.guard false ++ env)) mem
    | .off => rOps ty Γ all r (skipE o.dst env) mem
    | .bad => none
/-- One operation of a drawn region, run. -/
def dOneB (ty : Ty) (Γ : Gam) (mem0 : ML) (i : Nat) (o : Oper) (rd wr : NNs) (env : EL) (mem : ML) : Option ((NNs × NNs) × EL × ML) :=
  if keysAt mem0 (lk env) (tmpsOf o.op) && clash wr o (rdKeys (lk env) (tmpsOf o.op)) then match o.dst with
    | some d => match aStep ty Γ ⟨lk env, lk mem⟩ d o.op with
      | some out => if preB ty Γ ⟨lk env, lk mem⟩ o.op && freshB (lk mem) d out.mem && noFzB out.mem then some (((rdKeys (lk env) (tmpsOf o.op)).map (fun x => (i, x)) ++ rd, wr), (d, out.av) :: env, out.mem ++ mem) else none
      | none => none
    | none => match o.op with
      | .store t x y => match opd ⟨lk env, lk mem⟩ x, valOf (opd ⟨lk env, lk mem⟩ y) with
        | .ref key off, some v => match lk mem key with
          | some (c, false) => if stB c off (vcells v).length && (lk mem0 key).isSome && clashK rd o key then (match aStore ty ⟨lk env, lk mem⟩ t x y with
            | some (key', _, c) => if key' = key then some (((rdKeys (lk env) (tmpsOf o.op)).map (fun x => (i, x)) ++ rd, (i, key) :: wr), env, (key, c, false) :: mem) else none
            | none => none) else none
          | _ => none
        | _, _ => none
      | _ => none
  else none
def rD (ty : Ty) (Γ : Gam) (all : List Oper) (mem0 : ML) : Nat → NNs → NNs → List Oper → EL → ML → Option (EL × ML)
  | _, _, _, [], env, mem => some (env, mem)
  | i, rd, wr, o :: r, env, mem => match aGuard all ⟨lk env, lk mem⟩ o.guard with
      | .no => (dOneB ty Γ mem0 i o rd wr env mem).bind fun x => rD ty Γ all mem0 (i + 1) x.1.1 x.1.2 r x.2.1 x.2.2
      | .tt true => (dOneB ty Γ mem0 i o rd wr (gset all o.guard true ++ env) mem).bind fun x => rD ty Γ all mem0 (i + 1) x.1.1 x.1.2 r x.2.1 x.2.2
      | .tt false => rD ty Γ all mem0 (i + 1) rd wr r (skipE o.dst (gset all o.guard false ++ env)) mem
      | .off => rD ty Γ all mem0 (i + 1) rd wr r (skipE o.dst env) mem
      | .bad => none
/-- The names of all blocks moved on, so that the round's own are free again. -/
def shA (c : Nat) : AV → AV
  | .ref k o => .ref (k + c) o
  | .ow k => .ow (k + c)
  | .al k lo n => .al (k + c) lo n
  | .ows k n => .ows (k + c) n
  | .rd k l => .rd k l
  | .v x => .v x
  | _ => .dead
def dedup {α : Type} : List (Nat × α) → List Nat → List (Nat × α)
  | [], _ => []
  | (k, x) :: r, seen => if seen.contains k then dedup r seen else (k, x) :: dedup r (k :: seen)
def shE (c : Nat) (env : EL) : EL := env.map fun p => (p.1, shA c p.2)
def shM (c : Nat) (mem : ML) : ML := mem.map fun p => (p.1 + c, p.2)
def rev (ty : Ty) (Γ : Gam) (sh : Nat) : Nat → Code → EL → ML → Option (Ex × EL × ML)
  | 0, _, _, _ => none
  | f + 1, c, env, mem => match c with
    | .skip => some (.normal, env, mem)
    | .ret => some (.ret, env, mem)
    | .exit id => some (.exit id, env, mem)
    | .seq a b => match rev ty Γ sh f a env mem with
      | some (.normal, env', mem') => rev ty Γ sh f b env' mem'
      | some (.ret, env', mem') => some (.ret, env', mem')
      | some (.exit id, env', mem') => some (.exit id, env', mem')
      | none => none
    | .block id c => match rev ty Γ sh f c env mem with
      | some (.normal, env', mem') => some (.normal, env', mem')
      | some (.ret, env', mem') => some (.ret, env', mem')
      | some (.exit j, env', mem') => if j = id then some (.normal, env', mem') else some (.exit j, env', mem')
      | none => none
    | .cond x a b => match opd ⟨lk env, lk mem⟩ x with
      | .v (.bool true) => rev ty Γ sh f a env mem
      | .v (.bool false) => rev ty Γ sh f b env mem
      | _ => none
    | .region _ ops dr => match dr with
      | false => (rOps ty Γ ops.toList ops.toList env mem).map fun x => (.normal, x.1, x.2)
      | true => if drawOk ops.toList then (rD ty Γ ops.toList mem 0 [] [] ops.toList env mem).map fun x => (.normal, x.1, x.2) else none
    | .loop c => match rev ty Γ sh f c (shE sh (dedup env [])) (shM sh (dedup mem [])) with
      | some (.normal, env', mem') => rev ty Γ sh f (.loop c) env' mem'
      | some (.ret, env', mem') => some (.ret, env', mem')
      | some (.exit id, env', mem') => some (.exit id, env', mem')
      | none => none
    | _ => none

theorem lk_dedup {α : Type} : ∀ (l : List (Nat × α)) (seen : List Nat) (k : Nat), lk (dedup l seen) k = if seen.contains k then none else lk l k
  | [], seen, k => by simp [dedup, lk]
  | (j, x) :: r, seen, k => by
    simp only [dedup]
    split
    · rename_i hj
      rw [lk_dedup r seen k]
      split
      · rfl
      · rename_i hk
        have : k ≠ j := fun h => hk (h ▸ hj)
        simp [lk, this]
    · rename_i hj
      simp only [lk]
      rw [lk_dedup r (j :: seen) k]
      by_cases hkj : k = j
      · subst hkj
        have : ¬ k ∈ seen := by simpa using hj
        simp [this]
      · simp [hkj]
theorem lk_shM {sh : Nat} : ∀ (mem : ML) (k : Nat), lk (shM sh mem) k = if sh ≤ k then lk mem (k - sh) else none
  | [], k => by simp [shM, lk]
  | (j, x) :: r, k => by
    simp only [shM, List.map_cons, lk]
    have ih := lk_shM (sh := sh) r k
    simp only [shM] at ih
    by_cases h : k = j + sh
    · subst h; simp
    · rw [if_neg h, ih]
      split
      · rename_i hle; rw [if_neg (by omega)]
      · rfl
theorem lk_shE {sh : Nat} : ∀ (env : EL) (k : Nat), lk (shE sh env) k = (lk env k).map (shA sh)
  | [], k => rfl
  | (j, x) :: r, k => by
    simp only [shE, List.map_cons, lk]
    split
    · rfl
    · exact lk_shE r k
theorem RepS.sh {V : Nat → Prop} {β : Nat → Option Nat} {mem : ML} {w : World} {sh : Nat} {av : AV} {v : Value} (h : RepA V β (lk mem) w av v) :
    RepA V (fun k => if sh ≤ k then β (k - sh) else none) (lk (shM sh mem)) w (shA sh av) v := by
  cases av with
  | v x => exact h
  | pt x => trivial
  | rd k l =>
    obtain ⟨A, cap, h1, h2, h3, h4⟩ := h
    refine ⟨A, cap, h1, h2, h3, fun hl => ?_⟩
    obtain ⟨ad, h5, ⟨h6, h7⟩, h8⟩ := h4 hl
    refine ⟨ad, h5, ⟨h6, fun key c hk he => ?_⟩, h8⟩
    rw [lk_shM] at hk
    split at hk
    · rename_i hle
      simp only [hle, if_true] at he
      exact h7 _ c hk he
    · cases hk
  | ref k o =>
    obtain ⟨h1, b, h2, h3⟩ := h
    exact ⟨by rw [lk_shM]; simpa using h1, b, by simpa using h2, h3⟩
  | ow k =>
    obtain ⟨c, fr, cap, h1, h2, h3, h4⟩ := h
    exact ⟨c, fr, cap, by rw [lk_shM]; simpa using h1, h2.mono (by simp) (fun b _ => Nat.le_refl _), h3, by simpa using h4⟩
  | al k lo n =>
    obtain ⟨⟨c, fr, h1, h2⟩, A, cap, h3, h4, h5, h6⟩ := h
    exact ⟨⟨c, fr, by rw [lk_shM]; simpa using h1, h2⟩, A, cap, h3, h4, h5.mono (by simp) (fun b _ => Nat.le_refl _), by simpa using h6⟩
  | ows k n =>
    obtain ⟨c, fr, cap, b, h1, h2, h3, h4, h5⟩ := h
    exact ⟨c, fr, cap, b, by rw [lk_shM]; simpa using h1, by simpa using h2, h3, h4, h5⟩
  | tup l => trivial
  | dead => trivial
theorem ent_sh (sh : Nat) (env : EL) (mem : ML) : Ent env mem (shE sh (dedup env [])) (shM sh (dedup mem [])) := by
  have he : ∀ k, lk (shE sh (dedup env [])) k = (lk env k).map (shA sh) := fun k => by rw [lk_shE, lk_dedup]; simp
  have hm : lk (shM sh (dedup mem [])) = lk (shM sh mem) := by
    funext k; rw [lk_shM, lk_shM, lk_dedup]; simp
  rintro V w0 N a w ⟨β, h⟩
  refine ⟨fun k => if sh ≤ k then β (k - sh) else none, h.fresh, h.below, h.size, h.defers, ?_, ?_, ?_⟩
  · rw [hm]
    intro key c fr hk
    rw [lk_shM] at hk
    split at hk
    · rename_i hle
      have := h.mem _ c fr hk
      simpa [hle] using this
    · cases hk
  · rw [hm]
    intro k k' b h1 h2 e1 e2
    rw [lk_shM] at h1 h2
    simp only at e1 e2
    split at h1
    · split at h2
      · rename_i hk hk'
        rw [if_pos hk] at e1
        rw [if_pos hk'] at e2
        have := h.inj _ _ b h1 h2 e1 e2
        omega
      · cases h2
    · cases h1
  · intro k av hk
    rw [hm]
    rw [he] at hk
    obtain ⟨av0, h1, rfl⟩ := Option.map_eq_some_iff.1 hk
    obtain ⟨v, h2, h3⟩ := h.slots k av0 h1
    exact ⟨v, h2, RepS.sh h3⟩
theorem stB_ok {c : Ct} {off : Nat} {xs : List Value} {pc : Prop × Ct} (h : stAt c off xs = some pc) (hb : stB c off xs.length = true) : pc.1 := by
  unfold stAt at h; unfold stB at hb
  cases c with
  | vals l => simp only at h hb; cases h; simpa using hb
  | ints k l =>
    simp only at h hb
    split at h
    · split at h <;> cases h; simpa using hb
    · cases h
theorem rOne_ok {o : Oper} {env : EL} {mem : ML} {x : EL × ML} {k : EL → ML → Prop} (hF : Free Γ) (h : rOne ty Γ o env mem = some x) (hk : k x.1 x.2) : aOne ty Γ o env mem k := by
  obtain ⟨dst, op, t, pos, after, g⟩ := o
  cases dst with
  | some d =>
    simp only [rOne] at h
    cases hsp : isSp op with
    | true =>
      rw [hsp, if_pos rfl] at h
      rw [aOne_sp hsp]
      split at h
      · rename_i s hs
        split at h
        · rename_i hb
          cases h
          simp only [bindP, hs]
          exact ⟨spB_ok hs hb, hk⟩
        · cases h
      · cases h
    | false =>
    rw [hsp, if_neg (by simp)] at h
    rw [aOne_dst hsp]
    split at h
    · rename_i out hs
      split at h
      · rename_i hc
        simp only [Bool.and_eq_true] at hc
        cases h
        simp only [hs, bindO]
        exact ⟨preB_ok hF hs hc.1, freshB_ok hc.2, hk⟩
      · cases h
    · cases h
  | none =>
    cases op <;> simp only [rOne] at h <;> try (cases h; done)
    case store t' x' y =>
      split at h
      · rename_i key off v hx hy
        split at h
        · rename_i c hm
          split at h
          · rename_i hst
            split at h
            · rename_i key' p c' hs
              cases h
              simp only [aOne, hs, bindS]
              refine ⟨?_, hk⟩
              unfold aStore at hs
              simp only [hx, hy, hm] at hs
              split at hs
              · obtain ⟨⟨p', c''⟩, h3, h4⟩ := Option.map_eq_some_iff.1 hs
                cases h4
                exact stB_ok h3 hst
              · cases hs
            · cases h
          · cases h
        · cases h
      · cases h
theorem rOps_ok {all : List Oper} {K : EL → ML → Prop} (hF : Free Γ) : ∀ {l : List Oper} {env : EL} {mem : ML} {x : EL × ML}, rOps ty Γ all l env mem = some x → K x.1 x.2 → awpOps ty Γ all K l env mem
  | [], env, mem, x, h, hk => by cases h; exact hk
  | o :: r, env, mem, x, h, hk => by
    unfold rOps at h
    unfold awpOps
    split at h <;> rename_i hg <;> rw [hg] <;> simp only [bindG]
    · obtain ⟨y, hy, h⟩ := Option.bind_eq_some_iff.1 h
      exact rOne_ok hF hy (rOps_ok hF h hk)
    · obtain ⟨y, hy, h⟩ := Option.bind_eq_some_iff.1 h
      exact ⟨fun _ => rOne_ok hF hy (rOps_ok hF h hk), fun h => by cases h⟩
    · exact ⟨fun h => (by cases h), fun _ => rOps_ok hF h hk⟩
    · exact rOps_ok hF h hk
    · cases h
theorem dOneB_ok {mem0 : ML} {i : Nat} {o : Oper} {rd wr : NNs} {env : EL} {mem : ML} {x : (NNs × NNs) × EL × ML} {k : DK} (hF : Free Γ) (h : dOneB ty Γ mem0 i o rd wr env mem = some x) (hk : k x.1.1 x.1.2 x.2.1 x.2.2) : dOne ty Γ mem0 i o rd wr env mem k := by
  unfold dOneB at h
  split at h
  · rename_i hkeys
    refine ⟨hkeys, ?_⟩
    obtain ⟨dst, op, t, pos, after, g⟩ := o
    cases dst with
    | some d =>
      simp only at h ⊢
      split at h
      · rename_i out hs
        split at h
        · rename_i hc
          simp only [Bool.and_eq_true] at hc
          cases h
          simp only [hs, bindO]
          exact ⟨preB_ok hF hs hc.1.1, ⟨freshB_ok hc.1.2, noFzB_ok hc.2⟩, hk⟩
        · cases h
      · cases h
    | none =>
      simp only at h
      cases op <;> simp only at h <;> try (cases h; done)
      case store t' x' y =>
        split at h
        · rename_i key off v hx hy
          split at h
          · rename_i c hm
            split at h
            · rename_i hst
              simp only [Bool.and_eq_true] at hst
              split at h
              · rename_i key' p c' hs
                split at h
                · rename_i hkk
                  subst hkk
                  cases h
                  simp only [hs, bindS]
                  refine ⟨?_, by rw [hst.1.2, hst.2]; rfl, hk⟩
                  unfold aStore at hs
                  simp only [hx, hy, hm] at hs
                  split at hs
                  · obtain ⟨⟨p', c''⟩, h3, h4⟩ := Option.map_eq_some_iff.1 hs
                    cases h4
                    exact stB_ok h3 hst.1.1
                  · cases hs
                · cases h
              · cases h
            · cases h
          · cases h
        · cases h
  · cases h
theorem rD_ok {all : List Oper} {mem0 : ML} {K : EL → ML → Prop} (hF : Free Γ) : ∀ {l : List Oper} {i : Nat} {rd wr : NNs} {env : EL} {mem : ML} {x : EL × ML}, rD ty Γ all mem0 i rd wr l env mem = some x → K x.1 x.2 → awpD ty Γ all mem0 K i rd wr l env mem
  | [], i, rd, wr, env, mem, x, h, hk => by cases h; exact hk
  | o :: r, i, rd, wr, env, mem, x, h, hk => by
    unfold rD at h
    unfold awpD
    split at h <;> rename_i hg <;> rw [hg] <;> simp only [bindG]
    · obtain ⟨y, hy, h⟩ := Option.bind_eq_some_iff.1 h
      exact dOneB_ok hF hy (rD_ok hF h hk)
    · obtain ⟨y, hy, h⟩ := Option.bind_eq_some_iff.1 h
      exact ⟨fun _ => dOneB_ok hF hy (rD_ok hF h hk), fun h => by cases h⟩
    · exact ⟨fun h => (by cases h), fun _ => rD_ok hF h hk⟩
    · exact rD_ok hF h hk
    · cases h
theorem Brk_mono {t : Bool} {a b a' b' : Prop} (h : Brk t a b) (ha : a → a') (hb : b → b') : Brk t a' b' := ⟨fun h0 => ha (h.1 h0), fun h0 => hb (h.2 h0)⟩
theorem bindG_mono {g : GR} {a b c d a' b' c' d' : Prop} (h : bindG g a b c d) (ha : a → a') (hb : b → b') (hc : c → c') (hd : d → d') : bindG g a' b' c' d' := by
  cases g with
  | no => exact ha h
  | off => exact hd h
  | bad => exact h
  | tt t => exact Brk_mono h hb hc
theorem bindO_mono {o : Option Out} {k k' : AV → ML → Prop} (h : bindO o k) (hk : ∀ a m, k a m → k' a m) : bindO o k' := by
  cases o with
  | none => exact h
  | some out => exact ⟨h.1, hk _ _ h.2⟩
theorem aOne_mono {o : Oper} {env : EL} {mem : ML} {k k' : EL → ML → Prop} (h : aOne ty Γ o env mem k) (hk : ∀ e m, k e m → k' e m) : aOne ty Γ o env mem k' := by
  obtain ⟨dst, op, t, pos, after, g⟩ := o
  cases dst with
  | some d =>
    cases hsp : isSp op with
    | true =>
      rw [aOne_sp hsp] at h ⊢
      unfold bindP at h ⊢
      split at h
      · exact ⟨h.1, hk _ _ h.2⟩
      · exact h
    | false =>
      rw [aOne_dst hsp] at h ⊢
      exact bindO_mono h fun a m h => ⟨h.1, hk _ _ h.2⟩
  | none =>
    cases op <;> first | exact (h : False).elim | skip
    case store t' x y =>
      simp only [aOne] at h ⊢
      unfold bindS at h ⊢
      split at h
      · exact ⟨h.1, hk _ _ h.2⟩
      · exact h
theorem awpOps_mono {all : List Oper} {K K' : EL → ML → Prop} (hK : ∀ e m, K e m → K' e m) : ∀ {l : List Oper} {env : EL} {mem : ML}, awpOps ty Γ all K l env mem → awpOps ty Γ all K' l env mem
  | [], _, _, h => hK _ _ h
  | o :: r, env, mem, h => bindG_mono h (fun h => aOne_mono h fun _ _ => awpOps_mono hK) (fun h => aOne_mono h fun _ _ => awpOps_mono hK) (awpOps_mono hK) (awpOps_mono hK)
theorem dOne_mono {mem0 : ML} {i : Nat} {o : Oper} {rd wr : NNs} {env : EL} {mem : ML} {k k' : DK} (h : dOne ty Γ mem0 i o rd wr env mem k) (hk : ∀ rd wr e m, k rd wr e m → k' rd wr e m) : dOne ty Γ mem0 i o rd wr env mem k' := by
  obtain ⟨h1, h2⟩ := h
  refine ⟨h1, ?_⟩
  obtain ⟨dst, op, t, pos, after, g⟩ := o
  cases dst with
  | some d => exact bindO_mono h2 fun a m h => ⟨h.1, hk _ _ _ _ h.2⟩
  | none =>
    cases op <;> first | exact (h2 : False).elim | skip
    case store t x y =>
      simp only at h2 ⊢
      unfold bindS at h2 ⊢
      split at h2
      · exact ⟨h2.1, h2.2.1, hk _ _ _ _ h2.2.2⟩
      · exact h2
theorem awpD_mono {all : List Oper} {mem0 : ML} {K K' : EL → ML → Prop} (hK : ∀ e m, K e m → K' e m) : ∀ {l : List Oper} {i : Nat} {rd wr : NNs} {env : EL} {mem : ML}, awpD ty Γ all mem0 K i rd wr l env mem → awpD ty Γ all mem0 K' i rd wr l env mem
  | [], _, _, _, _, _, h => hK _ _ h
  | o :: r, i, rd, wr, env, mem, h => by
    unfold awpD at h ⊢
    exact bindG_mono h (fun h => dOne_mono h fun _ _ _ _ => awpD_mono hK) (fun h => dOne_mono h fun _ _ _ _ => awpD_mono hK) (awpD_mono hK) (awpD_mono hK)
theorem awp_mono {c : Code} : ∀ {Q Q' : Post} {env : EL} {mem : ML}, (∀ ex e m, Q ex e m → Q' ex e m) → awp ty Γ c Q env mem → awp ty Γ c Q' env mem := by
  induction c with
  | skip => intro Q Q' env mem hQ h; exact hQ _ _ _ h
  | ret => intro Q Q' env mem hQ h; exact hQ _ _ _ h
  | exit id => intro Q Q' env mem hQ h; exact hQ _ _ _ h
  | seq a b iha ihb =>
    intro Q Q' env mem hQ h
    refine iha (fun ex e m h => ?_) h
    cases ex with
    | normal => obtain ⟨e0, m0, h0, h1⟩ := h; exact ⟨e0, m0, h0, ihb hQ h1⟩
    | exit id => exact hQ _ _ _ h
    | ret => exact hQ _ _ _ h
  | block id c ih =>
    intro Q Q' env mem hQ h
    refine ih (fun ex e m h => ?_) h
    cases ex with
    | normal => exact hQ _ _ _ h
    | ret => exact hQ _ _ _ h
    | exit j =>
      simp only [blockP] at h ⊢
      split
      · rename_i hj; rw [if_pos hj] at h; exact hQ _ _ _ h
      · rename_i hj; rw [if_neg hj] at h; exact hQ _ _ _ h
  | cond x a b iha ihb =>
    intro Q Q' env mem hQ h
    simp only [awp] at h ⊢
    unfold aCond at h ⊢
    split at h
    · exact Brk_mono h (iha hQ) (ihb hQ)
    · exact h
  | region id ops dr =>
    intro Q Q' env mem hQ h
    cases dr with
    | false => exact awpOps_mono (hQ _) h
    | true => exact ⟨h.1, awpD_mono (hQ _) h.2⟩
  | loop c ih =>
    intro Q Q' env mem hQ h
    obtain ⟨ι, E, M, μ, i0, h0, hr⟩ := h
    refine ⟨ι, E, M, μ, i0, h0, fun i => ih (fun ex e m h => ?_) (hr i)⟩
    cases ex with
    | normal => exact h
    | exit id => exact hQ _ _ _ h
    | ret => exact hQ _ _ _ h
  | _ => intro Q Q' env mem hQ h; simp only [awp] at h
theorem awp_loop_more {c : Code} {Q : Post} {env env1 env2 : EL} {mem mem1 mem2 : ML} (he : Ent env mem env1 mem1) (h1 : ∀ Q' : Post, (Q' .normal env2 mem2) → awp ty Γ c Q' env1 mem1) (h2 : awp ty Γ (.loop c) Q env2 mem2) : awp ty Γ (.loop c) Q env mem := by
  obtain ⟨ι, E, M, μ, i0, h0, hr⟩ := h2
  refine ⟨Option ι, fun i => i.elim env1 E, fun i => i.elim mem1 M, fun i => i.elim (μ i0 + 1) μ, none, he, fun i => ?_⟩
  cases i with
  | none => exact h1 _ ⟨some i0, h0, Nat.lt_succ_self _⟩
  | some i =>
    have post : loopP E M μ i Q = loopP E M μ i Q := rfl
    have := hr i
    refine awp_mono ?_ this
    intro e env mem hq
    cases e with
    | normal => obtain ⟨j, h3, h4⟩ := hq; exact ⟨some j, h3, h4⟩
    | exit id => exact hq
    | ret => exact hq
theorem awp_loop_out {c : Code} {Q : Post} {ex : Ex} {env env1 env2 : EL} {mem mem1 mem2 : ML} (hex : ex ≠ .normal) (he : Ent env mem env1 mem1) (h1 : ∀ Q' : Post, (Q' ex env2 mem2) → awp ty Γ c Q' env1 mem1) (h2 : Q ex env2 mem2) : awp ty Γ (.loop c) Q env mem := by
  refine ⟨Unit, fun _ => env1, fun _ => mem1, fun _ => 0, (), he, fun _ => h1 _ ?_⟩
  cases ex with
  | normal => exact absurd rfl hex
  | exit id => exact h2
  | ret => exact h2
theorem rev_ok (hF : Free Γ) {sh : Nat} : ∀ (f : Nat) (c : Code) (env : EL) (mem : ML) (ex : Ex) (env' : EL) (mem' : ML), rev ty Γ sh f c env mem = some (ex, env', mem') → ∀ Q : Post, Q ex env' mem' → awp ty Γ c Q env mem := by
  intro f
  induction f with
  | zero => intro c env mem ex env' mem' h; cases h
  | succ f ih =>
    intro c env mem ex env' mem' h Q hq
    unfold rev at h
    split at h
    · cases h; exact hq
    · cases h; exact hq
    · cases h; exact hq
    · rename_i a b
      split at h
      · rename_i env1 mem1 h1
        exact ih _ _ _ _ _ _ h1 _ (thenP_normal_i (ih _ _ _ _ _ _ h _ hq))
      · rename_i env1 mem1 h1
        cases h
        exact ih _ _ _ _ _ _ h1 _ hq
      · rename_i id env1 mem1 h1
        cases h
        exact ih _ _ _ _ _ _ h1 _ hq
      · cases h
    · rename_i id c
      split at h
      · rename_i env1 mem1 h1
        cases h
        exact ih _ _ _ _ _ _ h1 _ hq
      · rename_i env1 mem1 h1
        cases h
        exact ih _ _ _ _ _ _ h1 _ hq
      · rename_i j env1 mem1 h1
        refine ih _ _ _ _ _ _ h1 _ ?_
        simp only [blockP]
        split at h
        · rename_i hj; cases h; rw [if_pos hj]; exact hq
        · rename_i hj; cases h; rw [if_neg hj]; exact hq
      · cases h
    · rename_i x a b
      split at h
      · rename_i hx
        simp only [awp, hx, aCond]
        exact ⟨fun _ => ih _ _ _ _ _ _ h _ hq, fun h => by cases h⟩
      · rename_i hx
        simp only [awp, hx, aCond]
        exact ⟨fun h => (by cases h), fun _ => ih _ _ _ _ _ _ h _ hq⟩
      · cases h
    · rename_i id ops dr
      split at h
      · obtain ⟨x, hx, h⟩ := Option.map_eq_some_iff.1 h
        cases h
        exact rOps_ok hF hx hq
      · split at h
        · rename_i hd
          obtain ⟨x, hx, h⟩ := Option.map_eq_some_iff.1 h
          cases h
          exact ⟨hd, rD_ok hF hx hq⟩
        · cases h
    · rename_i c
      split at h
      · rename_i env1 mem1 h1
        exact awp_loop_more (ent_sh sh env mem) (fun Q' hq' => ih _ _ _ _ _ _ h1 Q' hq') (ih _ _ _ _ _ _ h Q hq)
      · rename_i env1 mem1 h1
        cases h
        exact awp_loop_out (by simp) (ent_sh sh env mem) (fun Q' hq' => ih _ _ _ _ _ _ h1 Q' hq') hq
      · rename_i id env1 mem1 h1
        cases h
        exact awp_loop_out (by simp) (ent_sh sh env mem) (fun Q' hq' => ih _ _ _ _ _ _ h1 Q' hq') hq
      · cases h
    · cases h
end Go.AM
