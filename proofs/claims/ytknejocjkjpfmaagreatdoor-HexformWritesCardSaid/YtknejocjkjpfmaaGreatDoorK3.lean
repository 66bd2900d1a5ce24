/- Part 3 of the proof: own text (AmRun2, AmRun3, AmEq, T2, AmExt, TC, T3, LN, AmUn, AmW, BitL). -/
import Derived.Laws.StructEq
import Derived.Test.YtknejocjkjpfmaaGreatDoorProg
import Derived.KernelRfl
import Derived.Lib.LaidTab
import Derived.Below
import Derived.Lib.ItoaNum
import Derived.Laws.Externs
import Derived.WalkKit
import Derived.Lib.SliceRun
import Derived.Test.YtknejocjkjpfmaaGreatDoorK0
import Derived.Test.YtknejocjkjpfmaaGreatDoorK1
import Derived.Test.YtknejocjkjpfmaaGreatDoorK2
set_option linter.all false
namespace Go.AM
variable [Lay]
variable {P : Program} {ty : Ty} {Γ : Gam}
abbrev EL := List (Nat × AV)
abbrev ML := List (Nat × Ct × Bool)
def freshB (mem : Mem) (d : Nat) : ML → Bool
  | [] => true
  | (k, _, fr) :: r => (fr || (decide (16 * d ≤ k) && decide (k < 16 * d + 16) && (mem k).isNone)) && freshB mem d r
theorem freshB_ok {mem : Mem} {d : Nat} : ∀ {l : ML}, freshB mem d l = true → freshM mem d l
  | [], _ => trivial
  | (k, c, fr) :: r, h => by
    simp only [freshB, Bool.and_eq_true, Bool.or_eq_true, decide_eq_true_eq, Option.isNone_iff_eq_none] at h
    exact ⟨h.1.imp id fun h => ⟨h.1.1, h.1.2, h.2⟩, freshB_ok h.2⟩
def noFzB : ML → Bool
  | [] => true
  | (_, _, fr) :: r => !fr && noFzB r
theorem noFzB_ok : ∀ {l : ML}, noFzB l = true → noFz l
  | [], _ => trivial
  | (k, c, fr) :: r, h => by
    simp only [noFzB, Bool.and_eq_true, Bool.not_eq_true'] at h
    exact ⟨h.1, noFzB_ok h.2⟩
def stB (c : Ct) (off n : Nat) : Bool := match c with
  | .vals l => decide (off + n ≤ l.length)
  | .ints _ l => decide (off < l.length)
def spB (ty : Ty) (env : EL) (mem : ML) (d : Nat) (op : Op) : Bool := match op with
  | .call ⟨.builtin .append, ⟨[x, y]⟩, ⟨[t, _]⟩⟩ => match intSl ty t with
    | some kb => match yInts ⟨lk env, lk mem⟩ kb.1 (opd ⟨lk env, lk mem⟩ y), slLen ⟨lk env, lk mem⟩ (opd ⟨lk env, lk mem⟩ x) with
      | some l', some n => decide ((n + l'.length) * kb.2 ≤ 140737488355328)
      | _, _ => false
    | none => false
  | _ => true
theorem spB_ok {env : EL} {mem : ML} {d : Nat} {op : Op} {s : Sp} (h : aSp ty env mem d op = some s) (hb : spB ty env mem d op = true) : s.pre := by
  unfold aSp at h
  split at h
  · rename_i x y t t'
    split at h
    · unfold spAppend at h
      obtain ⟨kb, hkb, h⟩ := Option.bind_eq_some_iff.1 h
      obtain ⟨l', hl', h⟩ := Option.bind_eq_some_iff.1 h
      simp only [spB, hkb, hl'] at hb
      split at h
      · rename_i hx
        split at h
        · cases h
          rw [hx] at hb
          simp only [slLen, decide_eq_true_eq] at hb
          simpa using hb
        · cases h
      · rename_i key hx
        split at h
        · rename_i k2 l hm
          split at h
          · cases h
            rw [hx] at hb
            simp only [slLen, hm, Option.map_some, Ct.len, decide_eq_true_eq] at hb
            exact hb
          · cases h
        · cases h
      · cases h
    · cases h
  · unfold spCopy at h
    obtain ⟨kb, hkb, h⟩ := Option.bind_eq_some_iff.1 h
    obtain ⟨l', hl', h⟩ := Option.bind_eq_some_iff.1 h
    split at h
    · split at h
      · obtain ⟨_, _, rfl⟩ := Option.map_eq_some_iff.1 h; trivial
      · cases h
    · split at h
      · obtain ⟨_, _, rfl⟩ := Option.map_eq_some_iff.1 h; trivial
      · cases h
    · cases h
  · cases h
/-- One operation, run. -/
def rOne (ty : Ty) (Γ : Gam) (o : Oper) (env : EL) (mem : ML) : Option (EL × ML) :=
  match o.dst, o.op with
  | some d, op => if isSp op then (match aSp ty env mem d op with
      | some s => if spB ty env mem d op then some ((d, s.av) :: s.env, (s.key, s.ct, false) :: mem) else none
      | none => none)
    else match aStep ty Γ ⟨lk env, lk mem⟩ d op with
    | some out => if preB ty Γ ⟨lk env, lk mem⟩ op && freshB (lk mem) d out.mem then some ((d, out.av) :: env, out.mem ++ mem) else none
    | none => none
  | none, .store t x y => match opd ⟨lk env, lk mem⟩ x, valOf (opd ⟨lk env, lk mem⟩ y) with
    | .ref key off, some v => match lk mem key with
      | some (c, false) => if stB c off (vcells v).length then (match aStore ty ⟨lk env, lk mem⟩ t x y with
        | some (key, _, c) => some (env, (key, c, false) :: mem)
        | none => none) else none
      | _ => none
    | _, _ => none
  | none, _ => none
def rOps (ty : Ty) (Γ : Gam) (all : List Oper) : List Oper → EL → ML → Option (EL × ML)
  | [], env, mem => some (env, mem)
  | o :: r, env, mem => match aGuard all ⟨lk env, lk mem⟩ o.guard with
    | .no => (rOne ty Γ o env mem).bind fun x => rOps ty Γ all r x.1 x.2
    | .tt true => (rOne ty Γ o (gset all o.guard true ++ env) mem).bind fun x => rOps ty Γ all r x.1 x.2
    | .tt false => rOps ty Γ all r (skipE o.dst (gset all o.guard false ++ env)) mem
    | .off => rOps ty Γ all r (skipE o.dst env) mem
    | .bad => none
/-- One operation of a drawn region, run. -/
def dOneB (ty : Ty) (Γ : Gam) (mem0 : ML) (i : Nat) (o : Oper) (rd wr : NNs) (env : EL) (mem : ML) : Option ((NNs × NNs) × EL × ML) :=
  if keysAt mem0 (lk env) (tmpsOf o.op) && clash wr o (rdKeys (lk env) (tmpsOf o.op)) then match o.dst with
    | some d => match aStep ty Γ ⟨lk env, lk mem⟩ d o.op with
      | some out => if preB ty Γ ⟨lk env, lk mem⟩ o.op && freshB (lk mem) d out.mem && noFzB out.mem then some (((rdKeys (lk env) (tmpsOf o.op)).map (fun x => (i, x)) ++ rd, wr), (d, out.av) :: env, out.mem ++ mem) else none
      | none => none
    | none => match o.op with
      | .store t x y => match opd ⟨lk env, lk mem⟩ x, valOf (opd ⟨lk env, lk mem⟩ y) with
        | .ref key off, some v => match lk mem key with
          | some (c, false) => if stB c off (vcells v).length && (lk mem0 key).isSome && clashK rd o key then (match aStore ty ⟨lk env, lk mem⟩ t x y with
            | some (key', _, c) => if key' = key then some (((rdKeys (lk env) (tmpsOf o.op)).map (fun x => (i, x)) ++ rd, (i, key) :: wr), env, (key, c, false) :: mem) else none
            | none => none) else none
          | _ => none
        | _, _ => none
      | _ => none
  else none
def rD (ty : Ty) (Γ : Gam) (all : List Oper) (mem0 : ML) : Nat → NNs → NNs → List Oper → EL → ML → Option (EL × ML)
  | _, _, _, [], env, mem => some (env, mem)
  | i, rd, wr, o :: r, env, mem => match aGuard all ⟨lk env, lk mem⟩ o.guard with
      | .no => (dOneB ty Γ mem0 i o rd wr env mem).bind fun x => rD ty Γ all mem0 (i + 1) x.1.1 x.1.2 r x.2.1 x.2.2
      | .tt true => (dOneB ty Γ mem0 i o rd wr (gset all o.guard true ++ env) mem).bind fun x => rD ty Γ all mem0 (i + 1) x.1.1 x.1.2 r x.2.1 x.2.2
      | .tt false => rD ty Γ all mem0 (i + 1) rd wr r (skipE o.dst (gset all o.guard false ++ env)) mem
      | .off => rD ty Γ all mem0 (i + 1) rd wr r (skipE o.dst env) mem
      | .bad => none
/-- The names of all blocks moved on, so that the round's own are free again. -/
def shA (c : Nat) : AV → AV
  | .ref k o => .ref (k + c) o
  | .ow k => .ow (k + c)
  | .al k lo n => .al (k + c) lo n
  | .ows k n => .ows (k + c) n
  | .rd k l => .rd k l
  | .v x => .v x
  | _ => .dead
def dedup {α : Type} : List (Nat × α) → List Nat → List (Nat × α)
  | [], _ => []
  | (k, x) :: r, seen => if seen.contains k then dedup r seen else (k, x) :: dedup r (k :: seen)
def shE (c : Nat) (env : EL) : EL := env.map fun p => (p.1, shA c p.2)
def shM (c : Nat) (mem : ML) : ML := mem.map fun p => (p.1 + c, p.2)
def rev (ty : Ty) (Γ : Gam) (sh : Nat) : Nat → Code → EL → ML → Option (Ex × EL × ML)
  | 0, _, _, _ => none
  | f + 1, c, env, mem => match c with
    | .skip => some (.normal, env, mem)
    | .ret => some (.ret, env, mem)
    | .exit id => some (.exit id, env, mem)
    | .seq a b => match rev ty Γ sh f a env mem with
      | some (.normal, env', mem') => rev ty Γ sh f b env' mem'
      | some (.ret, env', mem') => some (.ret, env', mem')
      | some (.exit id, env', mem') => some (.exit id, env', mem')
      | none => none
    | .block id c => match rev ty Γ sh f c env mem with
      | some (.normal, env', mem') => some (.normal, env', mem')
      | some (.ret, env', mem') => some (.ret, env', mem')
      | some (.exit j, env', mem') => if j = id then some (.normal, env', mem') else some (.exit j, env', mem')
      | none => none
    | .cond x a b => match opd ⟨lk env, lk mem⟩ x with
      | .v (.bool true) => rev ty Γ sh f a env mem
      | .v (.bool false) => rev ty Γ sh f b env mem
      | _ => none
    | .region _ ops dr => match dr with
      | false => (rOps ty Γ ops.toList ops.toList env mem).map fun x => (.normal, x.1, x.2)
      | true => if drawOk ops.toList then (rD ty Γ ops.toList mem 0 [] [] ops.toList env mem).map fun x => (.normal, x.1, x.2) else none
    | .loop c => match rev ty Γ sh f c (shE sh (dedup env [])) (shM sh (dedup mem [])) with
      | some (.normal, env', mem') => rev ty Γ sh f (.loop c) env' mem'
      | some (.ret, env', mem') => some (.ret, env', mem')
      | some (.exit id, env', mem') => some (.exit id, env', mem')
      | none => none
    | _ => none

theorem lk_dedup {α : Type} : ∀ (l : List (Nat × α)) (seen : List Nat) (k : Nat), lk (dedup l seen) k = if seen.contains k then none else lk l k
  | [], seen, k => by simp [dedup, lk]
  | (j, x) :: r, seen, k => by
    simp only [dedup]
    split
    · rename_i hj
      rw [lk_dedup r seen k]
      split
      · rfl
      · rename_i hk
        have : k ≠ j := fun h => hk (h ▸ hj)
        simp [lk, this]
    · rename_i hj
      simp only [lk]
      rw [lk_dedup r (j :: seen) k]
      by_cases hkj : k = j
      · subst hkj
        have : ¬ k ∈ seen := by simpa using hj
        simp [this]
      · simp [hkj]
theorem lk_shM {sh : Nat} : ∀ (mem : ML) (k : Nat), lk (shM sh mem) k = if sh ≤ k then lk mem (k - sh) else none
  | [], k => by simp [shM, lk]
  | (j, x) :: r, k => by
    simp only [shM, List.map_cons, lk]
    have ih := lk_shM (sh := sh) r k
    simp only [shM] at ih
    by_cases h : k = j + sh
    · subst h; simp
    · rw [if_neg h, ih]
      split
      · rename_i hle; rw [if_neg (by omega)]
      · rfl
theorem lk_shE {sh : Nat} : ∀ (env : EL) (k : Nat), lk (shE sh env) k = (lk env k).map (shA sh)
  | [], k => rfl
  | (j, x) :: r, k => by
    simp only [shE, List.map_cons, lk]
    split
    · rfl
    · exact lk_shE r k
theorem RepS.sh {V : Nat → Prop} {β : Nat → Option Nat} {mem : ML} {w : World} {sh : Nat} {av : AV} {v : Value} (h : RepA V β (lk mem) w av v) :
    RepA V (fun k => if sh ≤ k then β (k - sh) else none) (lk (shM sh mem)) w (shA sh av) v := by
  cases av with
  | v x => exact h
  | pt x => trivial
  | rd k l =>
    obtain ⟨A, cap, h1, h2, h3, h4⟩ := h
    refine ⟨A, cap, h1, h2, h3, fun hl => ?_⟩
    obtain ⟨ad, h5, ⟨h6, h7⟩, h8⟩ := h4 hl
    refine ⟨ad, h5, ⟨h6, fun key c hk he => ?_⟩, h8⟩
    rw [lk_shM] at hk
    split at hk
    · rename_i hle
      simp only [hle, if_true] at he
      exact h7 _ c hk he
    · cases hk
  | ref k o =>
    obtain ⟨h1, b, h2, h3⟩ := h
    exact ⟨by rw [lk_shM]; simpa using h1, b, by simpa using h2, h3⟩
  | ow k =>
    obtain ⟨c, fr, cap, h1, h2, h3, h4⟩ := h
    exact ⟨c, fr, cap, by rw [lk_shM]; simpa using h1, h2.mono (by simp) (fun b _ => Nat.le_refl _), h3, by simpa using h4⟩
  | al k lo n =>
    obtain ⟨⟨c, fr, h1, h2⟩, A, cap, h3, h4, h5, h6⟩ := h
    exact ⟨⟨c, fr, by rw [lk_shM]; simpa using h1, h2⟩, A, cap, h3, h4, h5.mono (by simp) (fun b _ => Nat.le_refl _), by simpa using h6⟩
  | ows k n =>
    obtain ⟨c, fr, cap, b, h1, h2, h3, h4, h5⟩ := h
    exact ⟨c, fr, cap, b, by rw [lk_shM]; simpa using h1, by simpa using h2, h3, h4, h5⟩
  | tup l => trivial
  | dead => trivial
theorem ent_sh (sh : Nat) (env : EL) (mem : ML) : Ent env mem (shE sh (dedup env [])) (shM sh (dedup mem [])) := by
  have he : ∀ k, lk (shE sh (dedup env [])) k = (lk env k).map (shA sh) := fun k => by rw [lk_shE, lk_dedup]; simp
  have hm : lk (shM sh (dedup mem [])) = lk (shM sh mem) := by
    funext k; rw [lk_shM, lk_shM, lk_dedup]; simp
  rintro V w0 N a w ⟨β, h⟩
  refine ⟨fun k => if sh ≤ k then β (k - sh) else none, h.fresh, h.below, h.size, h.defers, ?_, ?_, ?_⟩
  · rw [hm]
    intro key c fr hk
    rw [lk_shM] at hk
    split at hk
    · rename_i hle
      have := h.mem _ c fr hk
      simpa [hle] using this
    · cases hk
  · rw [hm]
    intro k k' b h1 h2 e1 e2
    rw [lk_shM] at h1 h2
    simp only at e1 e2
    split at h1
    · split at h2
      · rename_i hk hk'
        rw [if_pos hk] at e1
        rw [if_pos hk'] at e2
        have := h.inj _ _ b h1 h2 e1 e2
        omega
      · cases h2
    · cases h1
  · intro k av hk
    rw [hm]
    rw [he] at hk
    obtain ⟨av0, h1, rfl⟩ := Option.map_eq_some_iff.1 hk
    obtain ⟨v, h2, h3⟩ := h.slots k av0 h1
    exact ⟨v, h2, RepS.sh h3⟩
theorem stB_ok {c : Ct} {off : Nat} {xs : List Value} {pc : Prop × Ct} (h : stAt c off xs = some pc) (hb : stB c off xs.length = true) : pc.1 := by
  unfold stAt at h; unfold stB at hb
  cases c with
  | vals l => simp only at h hb; cases h; simpa using hb
  | ints k l =>
    simp only at h hb
    split at h
    · split at h <;> cases h; simpa using hb
    · cases h
theorem rOne_ok {o : Oper} {env : EL} {mem : ML} {x : EL × ML} {k : EL → ML → Prop} (hF : Free Γ) (h : rOne ty Γ o env mem = some x) (hk : k x.1 x.2) : aOne ty Γ o env mem k := by
  obtain ⟨dst, op, t, pos, after, g⟩ := o
  cases dst with
  | some d =>
    simp only [rOne] at h
    cases hsp : isSp op with
    | true =>
      rw [hsp, if_pos rfl] at h
      rw [aOne_sp hsp]
      split at h
      · rename_i s hs
        split at h
        · rename_i hb
          cases h
          simp only [bindP, hs]
          exact ⟨spB_ok hs hb, hk⟩
        · cases h
      · cases h
    | false =>
    rw [hsp, if_neg (by simp)] at h
    rw [aOne_dst hsp]
    split at h
    · rename_i out hs
      split at h
      · rename_i hc
        simp only [Bool.and_eq_true] at hc
        cases h
        simp only [hs, bindO]
        exact ⟨preB_ok hF hs hc.1, freshB_ok hc.2, hk⟩
      · cases h
    · cases h
  | none =>
    cases op <;> simp only [rOne] at h <;> try (cases h; done)
    case store t' x' y =>
      split at h
      · rename_i key off v hx hy
        split at h
        · rename_i c hm
          split at h
          · rename_i hst
            split at h
            · rename_i key' p c' hs
              cases h
              simp only [aOne, hs, bindS]
              refine ⟨?_, hk⟩
              unfold aStore at hs
              simp only [hx, hy, hm] at hs
              split at hs
              · obtain ⟨⟨p', c''⟩, h3, h4⟩ := Option.map_eq_some_iff.1 hs
                cases h4
                exact stB_ok h3 hst
              · cases hs
            · cases h
          · cases h
        · cases h
      · cases h
theorem rOps_ok {all : List Oper} {K : EL → ML → Prop} (hF : Free Γ) : ∀ {l : List Oper} {env : EL} {mem : ML} {x : EL × ML}, rOps ty Γ all l env mem = some x → K x.1 x.2 → awpOps ty Γ all K l env mem
  | [], env, mem, x, h, hk => by cases h; exact hk
  | o :: r, env, mem, x, h, hk => by
    unfold rOps at h
    unfold awpOps
    split at h <;> rename_i hg <;> rw [hg] <;> simp only [bindG]
    · obtain ⟨y, hy, h⟩ := Option.bind_eq_some_iff.1 h
      exact rOne_ok hF hy (rOps_ok hF h hk)
    · obtain ⟨y, hy, h⟩ := Option.bind_eq_some_iff.1 h
      exact ⟨fun _ => rOne_ok hF hy (rOps_ok hF h hk), fun h => by cases h⟩
    · exact ⟨fun h => (by cases h), fun _ => rOps_ok hF h hk⟩
    · exact rOps_ok hF h hk
    · cases h
theorem dOneB_ok {mem0 : ML} {i : Nat} {o : Oper} {rd wr : NNs} {env : EL} {mem : ML} {x : (NNs × NNs) × EL × ML} {k : DK} (hF : Free Γ) (h : dOneB ty Γ mem0 i o rd wr env mem = some x) (hk : k x.1.1 x.1.2 x.2.1 x.2.2) : dOne ty Γ mem0 i o rd wr env mem k := by
  unfold dOneB at h
  split at h
  · rename_i hkeys
    refine ⟨hkeys, ?_⟩
    obtain ⟨dst, op, t, pos, after, g⟩ := o
    cases dst with
    | some d =>
      simp only at h ⊢
      split at h
      · rename_i out hs
        split at h
        · rename_i hc
          simp only [Bool.and_eq_true] at hc
          cases h
          simp only [hs, bindO]
          exact ⟨preB_ok hF hs hc.1.1, ⟨freshB_ok hc.1.2, noFzB_ok hc.2⟩, hk⟩
        · cases h
      · cases h
    | none =>
      simp only at h
      cases op <;> simp only at h <;> try (cases h; done)
      case store t' x' y =>
        split at h
        · rename_i key off v hx hy
          split at h
          · rename_i c hm
            split at h
            · rename_i hst
              simp only [Bool.and_eq_true] at hst
              split at h
              · rename_i key' p c' hs
                split at h
                · rename_i hkk
                  subst hkk
                  cases h
                  simp only [hs, bindS]
                  refine ⟨?_, by rw [hst.1.2, hst.2]; rfl, hk⟩
                  unfold aStore at hs
                  simp only [hx, hy, hm] at hs
                  split at hs
                  · obtain ⟨⟨p', c''⟩, h3, h4⟩ := Option.map_eq_some_iff.1 hs
                    cases h4
                    exact stB_ok h3 hst.1.1
                  · cases hs
                · cases h
              · cases h
            · cases h
          · cases h
        · cases h
  · cases h
theorem rD_ok {all : List Oper} {mem0 : ML} {K : EL → ML → Prop} (hF : Free Γ) : ∀ {l : List Oper} {i : Nat} {rd wr : NNs} {env : EL} {mem : ML} {x : EL × ML}, rD ty Γ all mem0 i rd wr l env mem = some x → K x.1 x.2 → awpD ty Γ all mem0 K i rd wr l env mem
  | [], i, rd, wr, env, mem, x, h, hk => by cases h; exact hk
  | o :: r, i, rd, wr, env, mem, x, h, hk => by
    unfold rD at h
    unfold awpD
    split at h <;> rename_i hg <;> rw [hg] <;> simp only [bindG]
    · obtain ⟨y, hy, h⟩ := Option.bind_eq_some_iff.1 h
      exact dOneB_ok hF hy (rD_ok hF h hk)
    · obtain ⟨y, hy, h⟩ := Option.bind_eq_some_iff.1 h
      exact ⟨fun _ => dOneB_ok hF hy (rD_ok hF h hk), fun h => by cases h⟩
    · exact ⟨fun h => (by cases h), fun _ => rD_ok hF h hk⟩
    · exact rD_ok hF h hk
    · cases h
theorem Brk_mono {t : Bool} {a b a' b' : Prop} (h : Brk t a b) (ha : a → a') (hb : b → b') : Brk t a' b' := ⟨fun h0 => ha (h.1 h0), fun h0 => hb (h.2 h0)⟩
theorem bindG_mono {g : GR} {a b c d a' b' c' d' : Prop} (h : bindG g a b c d) (ha : a → a') (hb : b → b') (hc : c → c') (hd : d → d') : bindG g a' b' c' d' := by
  cases g with
  | no => exact ha h
  | off => exact hd h
  | bad => exact h
  | tt t => exact Brk_mono h hb hc
theorem bindO_mono {o : Option Out} {k k' : AV → ML → Prop} (h : bindO o k) (hk : ∀ a m, k a m → k' a m) : bindO o k' := by
  cases o with
  | none => exact h
  | some out => exact ⟨h.1, hk _ _ h.2⟩
theorem aOne_mono {o : Oper} {env : EL} {mem : ML} {k k' : EL → ML → Prop} (h : aOne ty Γ o env mem k) (hk : ∀ e m, k e m → k' e m) : aOne ty Γ o env mem k' := by
  obtain ⟨dst, op, t, pos, after, g⟩ := o
  cases dst with
  | some d =>
    cases hsp : isSp op with
    | true =>
      rw [aOne_sp hsp] at h ⊢
      unfold bindP at h ⊢
      split at h
      · exact ⟨h.1, hk _ _ h.2⟩
      · exact h
    | false =>
      rw [aOne_dst hsp] at h ⊢
      exact bindO_mono h fun a m h => ⟨h.1, hk _ _ h.2⟩
  | none =>
    cases op <;> first | exact (h : False).elim | skip
    case store t' x y =>
      simp only [aOne] at h ⊢
      unfold bindS at h ⊢
      split at h
      · exact ⟨h.1, hk _ _ h.2⟩
      · exact h
theorem awpOps_mono {all : List Oper} {K K' : EL → ML → Prop} (hK : ∀ e m, K e m → K' e m) : ∀ {l : List Oper} {env : EL} {mem : ML}, awpOps ty Γ all K l env mem → awpOps ty Γ all K' l env mem
  | [], _, _, h => hK _ _ h
  | o :: r, env, mem, h => bindG_mono h (fun h => aOne_mono h fun _ _ => awpOps_mono hK) (fun h => aOne_mono h fun _ _ => awpOps_mono hK) (awpOps_mono hK) (awpOps_mono hK)
theorem dOne_mono {mem0 : ML} {i : Nat} {o : Oper} {rd wr : NNs} {env : EL} {mem : ML} {k k' : DK} (h : dOne ty Γ mem0 i o rd wr env mem k) (hk : ∀ rd wr e m, k rd wr e m → k' rd wr e m) : dOne ty Γ mem0 i o rd wr env mem k' := by
  obtain ⟨h1, h2⟩ := h
  refine ⟨h1, ?_⟩
  obtain ⟨dst, op, t, pos, after, g⟩ := o
  cases dst with
  | some d => exact bindO_mono h2 fun a m h => ⟨h.1, hk _ _ _ _ h.2⟩
  | none =>
    cases op <;> first | exact (h2 : False).elim | skip
    case store t x y =>
      simp only at h2 ⊢
      unfold bindS at h2 ⊢
      split at h2
      · exact ⟨h2.1, h2.2.1, hk _ _ _ _ h2.2.2⟩
      · exact h2
theorem awpD_mono {all : List Oper} {mem0 : ML} {K K' : EL → ML → Prop} (hK : ∀ e m, K e m → K' e m) : ∀ {l : List Oper} {i : Nat} {rd wr : NNs} {env : EL} {mem : ML}, awpD ty Γ all mem0 K i rd wr l env mem → awpD ty Γ all mem0 K' i rd wr l env mem
  | [], _, _, _, _, _, h => hK _ _ h
  | o :: r, i, rd, wr, env, mem, h => by
    unfold awpD at h ⊢
    exact bindG_mono h (fun h => dOne_mono h fun _ _ _ _ => awpD_mono hK) (fun h => dOne_mono h fun _ _ _ _ => awpD_mono hK) (awpD_mono hK) (awpD_mono hK)
theorem awp_mono {c : Code} : ∀ {Q Q' : Post} {env : EL} {mem : ML}, (∀ ex e m, Q ex e m → Q' ex e m) → awp ty Γ c Q env mem → awp ty Γ c Q' env mem := by
  induction c with
  | skip => intro Q Q' env mem hQ h; exact hQ _ _ _ h
  | ret => intro Q Q' env mem hQ h; exact hQ _ _ _ h
  | exit id => intro Q Q' env mem hQ h; exact hQ _ _ _ h
  | seq a b iha ihb =>
    intro Q Q' env mem hQ h
    refine iha (fun ex e m h => ?_) h
    cases ex with
    | normal => obtain ⟨e0, m0, h0, h1⟩ := h; exact ⟨e0, m0, h0, ihb hQ h1⟩
    | exit id => exact hQ _ _ _ h
    | ret => exact hQ _ _ _ h
  | block id c ih =>
    intro Q Q' env mem hQ h
    refine ih (fun ex e m h => ?_) h
    cases ex with
    | normal => exact hQ _ _ _ h
    | ret => exact hQ _ _ _ h
    | exit j =>
      simp only [blockP] at h ⊢
      split
      · rename_i hj; rw [if_pos hj] at h; exact hQ _ _ _ h
      · rename_i hj; rw [if_neg hj] at h; exact hQ _ _ _ h
  | cond x a b iha ihb =>
    intro Q Q' env mem hQ h
    simp only [awp] at h ⊢
    unfold aCond at h ⊢
    split at h
    · exact Brk_mono h (iha hQ) (ihb hQ)
    · exact h
  | region id ops dr =>
    intro Q Q' env mem hQ h
    cases dr with
    | false => exact awpOps_mono (hQ _) h
    | true => exact ⟨h.1, awpD_mono (hQ _) h.2⟩
  | loop c ih =>
    intro Q Q' env mem hQ h
    obtain ⟨ι, E, M, μ, i0, h0, hr⟩ := h
    refine ⟨ι, E, M, μ, i0, h0, fun i => ih (fun ex e m h => ?_) (hr i)⟩
    cases ex with
    | normal => exact h
    | exit id => exact hQ _ _ _ h
    | ret => exact hQ _ _ _ h
  | _ => intro Q Q' env mem hQ h; simp only [awp] at h
theorem awp_loop_more {c : Code} {Q : Post} {env env1 env2 : EL} {mem mem1 mem2 : ML} (he : Ent env mem env1 mem1) (h1 : ∀ Q' : Post, (Q' .normal env2 mem2) → awp ty Γ c Q' env1 mem1) (h2 : awp ty Γ (.loop c) Q env2 mem2) : awp ty Γ (.loop c) Q env mem := by
  obtain ⟨ι, E, M, μ, i0, h0, hr⟩ := h2
  refine ⟨Option ι, fun i => i.elim env1 E, fun i => i.elim mem1 M, fun i => i.elim (μ i0 + 1) μ, none, he, fun i => ?_⟩
  cases i with
  | none => exact h1 _ ⟨some i0, h0, Nat.lt_succ_self _⟩
  | some i =>
    have post : loopP E M μ i Q = loopP E M μ i Q := rfl
    have := hr i
    refine awp_mono ?_ this
    intro e env mem hq
    cases e with
    | normal => obtain ⟨j, h3, h4⟩ := hq; exact ⟨some j, h3, h4⟩
    | exit id => exact hq
    | ret => exact hq
theorem awp_loop_out {c : Code} {Q : Post} {ex : Ex} {env env1 env2 : EL} {mem mem1 mem2 : ML} (hex : ex ≠ .normal) (he : Ent env mem env1 mem1) (h1 : ∀ Q' : Post, (Q' ex env2 mem2) → awp ty Γ c Q' env1 mem1) (h2 : Q ex env2 mem2) : awp ty Γ (.loop c) Q env mem := by
  refine ⟨Unit, fun _ => env1, fun _ => mem1, fun _ => 0, (), he, fun _ => h1 _ ?_⟩
  cases ex with
  | normal => exact absurd rfl hex
  | exit id => exact h2
  | ret => exact h2
theorem rev_ok (hF : Free Γ) {sh : Nat} : ∀ (f : Nat) (c : Code) (env : EL) (mem : ML) (ex : Ex) (env' : EL) (mem' : ML), rev ty Γ sh f c env mem = some (ex, env', mem') → ∀ Q : Post, Q ex env' mem' → awp ty Γ c Q env mem := by
  intro f
  induction f with
  | zero => intro c env mem ex env' mem' h; cases h
  | succ f ih =>
    intro c env mem ex env' mem' h Q hq
    unfold rev at h
    split at h
    · cases h; exact hq
    · cases h; exact hq
    · cases h; exact hq
    · rename_i a b
      split at h
      · rename_i env1 mem1 h1
        exact ih _ _ _ _ _ _ h1 _ (thenP_normal_i (ih _ _ _ _ _ _ h _ hq))
      · rename_i env1 mem1 h1
        cases h
        exact ih _ _ _ _ _ _ h1 _ hq
      · rename_i id env1 mem1 h1
        cases h
        exact ih _ _ _ _ _ _ h1 _ hq
      · cases h
    · rename_i id c
      split at h
      · rename_i env1 mem1 h1
        cases h
        exact ih _ _ _ _ _ _ h1 _ hq
      · rename_i env1 mem1 h1
        cases h
        exact ih _ _ _ _ _ _ h1 _ hq
      · rename_i j env1 mem1 h1
        refine ih _ _ _ _ _ _ h1 _ ?_
        simp only [blockP]
        split at h
        · rename_i hj; cases h; rw [if_pos hj]; exact hq
        · rename_i hj; cases h; rw [if_neg hj]; exact hq
      · cases h
    · rename_i x a b
      split at h
      · rename_i hx
        simp only [awp, hx, aCond]
        exact ⟨fun _ => ih _ _ _ _ _ _ h _ hq, fun h => by cases h⟩
      · rename_i hx
        simp only [awp, hx, aCond]
        exact ⟨fun h => (by cases h), fun _ => ih _ _ _ _ _ _ h _ hq⟩
      · cases h
    · rename_i id ops dr
      split at h
      · obtain ⟨x, hx, h⟩ := Option.map_eq_some_iff.1 h
        cases h
        exact rOps_ok hF hx hq
      · split at h
        · rename_i hd
          obtain ⟨x, hx, h⟩ := Option.map_eq_some_iff.1 h
          cases h
          exact ⟨hd, rD_ok hF hx hq⟩
        · cases h
    · rename_i c
      split at h
      · rename_i env1 mem1 h1
        exact awp_loop_more (ent_sh sh env mem) (fun Q' hq' => ih _ _ _ _ _ _ h1 Q' hq') (ih _ _ _ _ _ _ h Q hq)
      · rename_i env1 mem1 h1
        cases h
        exact awp_loop_out (by simp) (ent_sh sh env mem) (fun Q' hq' => ih _ _ _ _ _ _ h1 Q' hq') hq
      · rename_i id env1 mem1 h1
        cases h
        exact awp_loop_out (by simp) (ent_sh sh env mem) (fun Q' hq' => ih _ _ _ _ _ _ h1 Q' hq') hq
      · cases h
    · cases h
end Go.AM
namespace Go.AM
variable [Lay]
variable {P : Program} {ty : Ty} {Γ : Gam}
def rvOf (ty : Ty) (e : Env) (m : Mem) : ResultVar → Option RV
  | .tmp t => match e t with
    | some (.v x) => some (.v x)
    | some (.rd k l) => some (.view k l)
    | some (.ow key) => match m key with
      | some (.ints k l, _) => some (.fresh k l)
      | _ => none
    | some (.ows key n) => match m key with
      | some (.vals l, _) => some (.cells n l)
      | _ => none
    | some (.al key lo n) => match m key with
      | some (.ints k l, _) => if lo = 0 then some (.fresh k (l.take n)) else some (.view k ((l.drop lo).take n))
      | _ => none
    | _ => none
  | .cell t u => match e t, ty u with
    | some (.ref key off), some i => match m key with
      | some (c, _) => match ldAt c off i.size i.agg with
        | some pv => if ldB c off i.size i.agg then some (.v pv.2) else none
        | none => none
      | none => none
    | _, _ => none
def rvsOf (ty : Ty) (e : Env) (m : Mem) : List ResultVar → Option (List RV)
  | [] => some []
  | v :: vs => match rvOf ty e m v, rvsOf ty e m vs with
    | some r, some rs => some (r :: rs)
    | _, _ => none
def toView : RV → RV
  | .fresh k l => .view k l
  | r => r
/-- Views and new slices do not mix: then all are views. -/
def unmix (rs : List RV) : List RV := if rs.any RV.isView && rs.any RV.isFresh then rs.map toView else rs
def resOf (ty : Ty) (e : Env) (m : Mem) (vs : List ResultVar) : Option Res := match rvsOf ty e m vs with
  | some [r] => some (.one r)
  | some rs => if nodupN (rKeys e vs (unmix rs)) then some (.many (unmix rs)) else none
  | none => none
theorem rvOf_ok {e : Env} {m : Mem} {v : ResultVar} {r : RV} (h : rvOf ty e m v = some r) : rvOk ty e m v r := by
  cases v with
  | tmp t =>
    simp only [rvOf] at h
    split at h
    · rename_i x he; cases h; simp only [rvOk, he]
    · rename_i k l he; cases h; simp only [rvOk, he]; exact ⟨trivial, trivial⟩
    · rename_i key he
      split at h
      · rename_i k l fr hm; cases h; simp only [rvOk, he, hm]; exact ⟨trivial, trivial⟩
      · cases h
    · rename_i key n he
      split at h
      · rename_i l fr hm; cases h; simp only [rvOk, he, hm]; exact ⟨trivial, trivial⟩
      · cases h
    · rename_i key lo n he
      split at h
      · rename_i k l fr hm
        split at h
        · rename_i h0; cases h; simp only [rvOk, he, hm]; exact ⟨h0, trivial, trivial⟩
        · cases h; simp only [rvOk, he, hm]; exact ⟨trivial, trivial⟩
      · cases h
    · cases h
  | cell t u =>
    simp only [rvOf] at h
    split at h
    · rename_i key off i he hu
      split at h
      · rename_i c fr hm
        split at h
        · rename_i pv hl
          split at h
          · rename_i hb
            cases h
            simp only [rvOk, he, hu, hm, hl]
            exact ⟨ldB_ok hl hb, trivial⟩
          · cases h
        · cases h
      · cases h
    · cases h
theorem rvsOf_ok {e : Env} {m : Mem} : ∀ {vs : List ResultVar} {rs : List RV}, rvsOf ty e m vs = some rs → rvsOk ty e m vs rs ∧ vs.length = rs.length
  | [], rs, h => by cases h; exact ⟨trivial, rfl⟩
  | v :: vs, rs, h => by
    simp only [rvsOf] at h
    split at h
    · rename_i r rs' h1 h2
      cases h
      obtain ⟨h3, h4⟩ := rvsOf_ok h2
      exact ⟨⟨rvOf_ok h1, h3⟩, by simp [h4]⟩
    · cases h
theorem toView_ok {e : Env} {m : Mem} {v : ResultVar} {r : RV} (h : rvOk ty e m v r) : rvOk ty e m v (toView r) := by
  cases r with
  | fresh k l =>
    cases v with
    | cell t u => simp only [rvOk] at h
    | tmp t =>
      simp only [rvOk, toView] at h ⊢
      split at h
      · rename_i key he
        rw [he]; exact h
      · rename_i key lo n he
        rw [he]
        simp only
        split at h
        · rename_i k' l' fr hm
          obtain ⟨rfl, rfl, h3⟩ := h
          exact ⟨rfl, by simpa using h3⟩
        · exact h.elim
      · rename_i he
        rw [he]; exact h
      · exact h.elim
  | _ => exact h
theorem toViews_ok {e : Env} {m : Mem} : ∀ {vs : List ResultVar} {rs : List RV}, rvsOk ty e m vs rs → rvsOk ty e m vs (rs.map toView)
  | [], [], _ => trivial
  | [], _ :: _, h => h.elim
  | _ :: _, [], h => h.elim
  | v :: vs, r :: rs, h => ⟨toView_ok h.1, toViews_ok h.2⟩
theorem unmix_ok {e : Env} {m : Mem} {vs : List ResultVar} {rs : List RV} (h : rvsOk ty e m vs rs) : rvsOk ty e m vs (unmix rs) := by
  unfold unmix
  split
  · exact toViews_ok h
  · exact h
theorem unmix_len (rs : List RV) : (unmix rs).length = rs.length := by
  unfold unmix
  split <;> simp
theorem resOf_ok {e : Env} {m : Mem} {vs : List ResultVar} {r : Res} (h : resOf ty e m vs = some r) : resOk ty e m vs r := by
  unfold resOf at h
  split at h
  · rename_i r hr
    cases h
    obtain ⟨h1, h2⟩ := rvsOf_ok hr
    match vs, h1, h2 with
    | [v], h1, h2 => exact h1.1
  · rename_i rs hne hr
    split at h
    · rename_i hn
      cases h
      obtain ⟨h1, h2⟩ := rvsOf_ok hr
      refine ⟨fun h3 => ?_, unmix_ok h1, hn⟩
      rw [h2] at h3
      match rs, h3 with
      | [r], _ => exact hne r rfl
    · cases h
  · cases h
def runF (ty : Ty) (Γ : Gam) (fuel : Nat) (fn : Func) : CSpec := fun ds => match fn.body with
  | some c => if ds.length ≤ fn.ntmps then (match rev ty Γ (16 * fn.ntmps) fuel c (entry 0 ds) [] with
    | some (.normal, env, mem) => (resOf ty (lk env) (lk mem) fn.results.toList).map fun r => (True, r)
    | some (.ret, env, mem) => (resOf ty (lk env) (lk mem) fn.results.toList).map fun r => (True, r)
    | _ => none) else none
  | none => none
abbrev Bodies := List (Nat × Func)
/-- The functions, run so deep. -/
def GamN (ty : Ty) (fuel : Nat) (bodies : Bodies) (ext : Gam) : Nat → Gam
  | 0 => ext
  | n + 1 => (bodies.map fun p => (p.1, Fk.body, runF ty (GamN ty fuel bodies ext n) fuel p.2)) ++ ext
def BodiesOk (P : Program) (l : Bodies) : Prop := ∀ p ∈ l, P.funcs[p.1]? = some p.2 ∧ (p.2.name == "runtime.NumGoroutine") = false ∧ (∀ c, p.2.body = some c → dstsLt p.2.ntmps c = true)
def dstsB (fn : Func) : Bool := match fn.body with
  | some c => dstsLt fn.ntmps c
  | none => false
theorem dstsB_ok {fn : Func} (h : dstsB fn = true) (c : Code) (hc : fn.body = some c) : dstsLt fn.ntmps c = true := by
  unfold dstsB at h
  rw [hc] at h
  exact h
theorem dstsB_some {fn : Func} (h : dstsB fn = true) : fn.body.isSome = true := by
  unfold dstsB at h
  split at h
  · rename_i c hc; rw [hc]; rfl
  · cases h
theorem lk_bodies {g : Func → CSpec} : ∀ {l : Bodies} {f : Nat} {fk : Fk} {spec : CSpec}, lk (l.map fun p => (p.1, Fk.body, g p.2)) f = some (fk, spec) → ∃ fn, (f, fn) ∈ l ∧ fk = .body ∧ spec = g fn
  | [], f, fk, spec, h => by cases h
  | (j, fn) :: l, f, fk, spec, h => by
    simp only [List.map_cons, lk] at h
    split at h
    · rename_i he; subst he; cases h; exact ⟨fn, by simp, rfl, rfl⟩
    · obtain ⟨fn', h1, h2, h3⟩ := lk_bodies h; exact ⟨fn', by simp [h1], h2, h3⟩
theorem runF_sound {f fuel : Nat} {fn : Func} (hm : P.follows .mixedOrders = true) (hty : TysOk P ty) (hΓ : GamOk P Γ) (hF : Free Γ) (hf : P.funcs[f]? = some fn) (hn : (fn.name == "runtime.NumGoroutine") = false) (hN : ∀ c, fn.body = some c → dstsLt fn.ntmps c = true) (hb : fn.body.isSome = true) :
    Sound P f .body (runF ty Γ fuel fn) := by
  obtain ⟨c, hc⟩ := Option.isSome_iff_exists.1 hb
  refine sound_body hf hc hn hty hΓ (drawOk_ok hm hty hΓ) (hN c hc) fun ds p r hs hp => ?_
  unfold runF at hs
  rw [hc] at hs
  simp only at hs
  split at hs
  · rename_i hlen
    refine ⟨hlen, ?_⟩
    split at hs
    · rename_i env mem hr
      obtain ⟨r', h1, h2⟩ := Option.map_eq_some_iff.1 hs
      cases h2
      exact rev_ok hF _ _ _ _ _ _ _ hr _ (resOf_ok h1)
    · rename_i env mem hr
      obtain ⟨r', h1, h2⟩ := Option.map_eq_some_iff.1 hs
      cases h2
      exact rev_ok hF _ _ _ _ _ _ _ hr _ (resOf_ok h1)
    · cases hs
  · cases hs
theorem runF_free {fuel : Nat} {fn : Func} {ds : List DV} {p : Prop} {r : Res} (h : runF ty Γ fuel fn ds = some (p, r)) : p := by
  unfold runF at h
  split at h
  · split at h
    · split at h
      · obtain ⟨r', h1, h2⟩ := Option.map_eq_some_iff.1 h; cases h2; trivial
      · obtain ⟨r', h1, h2⟩ := Option.map_eq_some_iff.1 h; cases h2; trivial
      · cases h
    · cases h
  · cases h
theorem GamN_ok {fuel : Nat} {bodies : Bodies} {ext : Gam} (hm : P.follows .mixedOrders = true) (hty : TysOk P ty) (hext : GamOk P ext) (hfree : Free ext) (hbo : BodiesOk P bodies) (hsome : ∀ p ∈ bodies, p.2.body.isSome = true) :
    ∀ n, GamOk P (GamN ty fuel bodies ext n) ∧ Free (GamN ty fuel bodies ext n)
  | 0 => ⟨hext, hfree⟩
  | n + 1 => by
    obtain ⟨h1, h2⟩ := GamN_ok hm hty hext hfree hbo hsome (fuel := fuel) n
    constructor
    · intro f fk spec h
      simp only [GamN] at h
      rw [lk_app] at h
      rcases Option.or_eq_some_iff.1 h with h | ⟨_, h⟩
      · obtain ⟨fn, h3, rfl, rfl⟩ := lk_bodies h
        obtain ⟨h4, h5, h6⟩ := hbo _ h3
        exact runF_sound hm hty h1 h2 h4 h5 h6 (hsome _ h3)
      · exact hext f fk spec h
    · intro f fk spec ds p r h hs
      simp only [GamN] at h
      rw [lk_app] at h
      rcases Option.or_eq_some_iff.1 h with h | ⟨_, h⟩
      · obtain ⟨fn, h3, rfl, rfl⟩ := lk_bodies h
        exact runF_free hs
      · exact hfree f fk spec ds p r h hs
end Go.AM
namespace Go.AM
variable [Lay]
variable {P : Program} (w : World)
theorem run_partI {el : TypeId} {k : IntKind} (hel : P.underlying el = some (.int k)) (hs : (sizeOf el).run P w = .ok 1 w) (hag : (isAgg el).run P w = .ok false w) (xs : Array Value) (i : Nat) (v : Value) (hv : xs[i]? = some v) :
    (part el xs i).run P w = .ok v w := by
  unfold part
  simp [Sem.run_bind, hs, hag, hv]
theorem eq4 {t el : TypeId} {k : IntKind} (ht : P.underlying t = some (.array 4 el)) (hel : P.underlying el = some (.int k)) (hs : ∀ w, (sizeOf el).run P w = .ok 1 w) (hag : ∀ w, (isAgg el).run P w = .ok false w) (a0 a1 a2 a3 b0 b1 b2 b3 : Int) :
    (Op.equal t (.agg #[.int k a0, .int k a1, .int k a2, .int k a3]) (.agg #[.int k b0, .int k b1, .int k b2, .int k b3])).run P w = .ok ((a0 == b0) && ((a1 == b1) && ((a2 == b2) && ((a3 == b3) && true)))) w := by
  have e1 : ∀ (a b : Int), (Op.equalIn (9998 + 1) el (.int k a) (.int k b)).run P w = .ok (a == b) w := fun a b => run_equalIn_int w 9998 el k k a b hel
  have p : ∀ (xs : Array Value) (i : Nat) (v : Value), xs[i]? = some v → (part el xs i).run P w = .ok v w := fun xs i v hv => run_partI w hel (hs w) (hag w) xs i v hv
  simp only [Op.equal, Op.maxDepth]
  unfold Op.equalIn
  simp only [Sem.run_bind, run_underlying ht, Result.andThen_ok, hs]
  simp [Std.Legacy.Range.forIn_eq_forIn_range', List.range', Sem.run_bind]
  have q : ∀ (v0 v1 v2 v3 : Value), (part el #[v0, v1, v2, v3] 0).run P w = .ok v0 w ∧ (part el #[v0, v1, v2, v3] 1).run P w = .ok v1 w ∧ (part el #[v0, v1, v2, v3] 2).run P w = .ok v2 w ∧ (part el #[v0, v1, v2, v3] 3).run P w = .ok v3 w :=
    fun v0 v1 v2 v3 => ⟨p _ 0 _ rfl, p _ 1 _ rfl, p _ 2 _ rfl, p _ 3 _ rfl⟩
  simp only [q, e1, Result.andThen_ok, Sem.run_bind]
  cases h0 : (a0 == b0) <;> cases h1 : (a1 == b1) <;> cases h2 : (a2 == b2) <;> cases h3 : (a3 == b3) <;> simp_all
theorem fits4 {k : IntKind} {l : List Value} (h : fits [.int k, .int k, .int k, .int k] l = true) : ∃ a0 a1 a2 a3, l = [.int k a0, .int k a1, .int k a2, .int k a3] := by
  have step : ∀ {r : List LK} {l : List Value}, fits (.int k :: r) l = true → ∃ a l', l = .int k a :: l' ∧ fits r l' = true := by
    intro r l h
    cases l with
    | nil => simp [fits] at h
    | cons x l =>
      cases x <;> simp only [fits, Bool.false_eq_true] at h
      rename_i k' a
      simp only [Bool.and_eq_true, beq_iff_eq] at h
      exact ⟨a, l, by rw [h.1], h.2⟩
  obtain ⟨a0, l0, rfl, h0⟩ := step h
  obtain ⟨a1, l1, rfl, h1⟩ := step h0
  obtain ⟨a2, l2, rfl, h2⟩ := step h1
  obtain ⟨a3, l3, rfl, h3⟩ := step h2
  cases l3 with
  | nil => exact ⟨a0, a1, a2, a3, rfl⟩
  | cons x l => simp [fits] at h3
theorem eq4_ok {t el : TypeId} {k : IntKind} {P : Program} (ht : P.underlying t = some (.array 4 el)) (hel : P.underlying el = some (.int k)) (hs : ∀ w, (sizeOf el).run P w = .ok 1 w) (hag : ∀ w, (isAgg el).run P w = .ok false w)
    (xs ys : Array Value) (b : Bool) (w : World) (hx : fits [.int k, .int k, .int k, .int k] xs.toList = true) (hy : fits [.int k, .int k, .int k, .int k] ys.toList = true) (hb : leafEq xs.toList ys.toList = some b) : (Op.equal t (.agg xs) (.agg ys)).run P w = .ok b w := by
  obtain ⟨a0, a1, a2, a3, e1⟩ := fits4 hx
  obtain ⟨b0, b1, b2, b3, e2⟩ := fits4 hy
  obtain ⟨xs⟩ := xs
  obtain ⟨ys⟩ := ys
  simp only at e1 e2
  subst e1 e2
  have := eq4 w ht hel hs hag a0 a1 a2 a3 b0 b1 b2 b3
  rw [this]
  simp [leafEq] at hb
  simp [← hb]
end Go.AM
set_option maxRecDepth 20000
namespace Go.Proofs.AMT
open Go.AM
theorem tab_below {P : Program} {w w' : World} {n : String} {k : IntKind} {zs : List Int} (hs : (P.globalNamed n).isSome = true) (h : Lib.TabIs P w n k zs) (hb : Go.RowKit.Below w.heap.size w w') : Lib.TabIs P w' n k zs := by
  obtain ⟨g, hg⟩ := Option.isSome_iff_exists.1 hs
  unfold Lib.TabIs World.var? at h ⊢
  rw [hg] at h ⊢
  simp only [Option.bind_some] at h ⊢
  have hlt : g < w.heap.size := by
    rcases Nat.lt_or_ge g w.heap.size with h1 | h1
    · exact h1
    · rw [Array.getElem?_eq_none h1] at h; cases h
  rw [hb.block g hlt]; exact h
/-- The table of powers of ten is laid. -/
noncomputable instance : Lay := ⟨fun w => Lib.TabIs Tryz.prog w "internal/strconv.uint64pow10" .u64 Lib.pow10Tab, fun h hb => tab_below (by kernel_rfl) h hb⟩
def ty : Ty := fun t => match t with
  | 2 => some ⟨.int .i64, 1, 8, false, [.int .i64 0], []⟩
  | 3 => some ⟨.int .i64, 1, 8, false, [.int .i64 0], []⟩
  | 4 => some ⟨.bool, 1, 1, false, [.bool false], []⟩
  | 5 => some ⟨.int .u8, 1, 1, false, [.int .u8 0], []⟩
  | 6 => some ⟨.int .u8, 1, 1, false, [.int .u8 0], []⟩
  | 8 => some ⟨.struct [(0, 2), (1, 3), (2, 4), (3, 6)], 4, 24, true, [.int .i64 0, .int .i64 0, .bool false, .int .u8 0], []⟩
  | 9 => some ⟨.str, 1, 16, false, [.string ⟨#[]⟩], []⟩
  | 10 => some ⟨.str, 1, 16, false, [.string ⟨#[]⟩], []⟩
  | 11 => some ⟨.str, 1, 16, false, [.string ⟨#[]⟩], []⟩
  | 12 => some ⟨.int .u64, 1, 8, false, [.int .u64 0], []⟩
  | 14 => some ⟨.struct [(0, 9), (1, 12)], 2, 24, true, [.string ⟨#[]⟩, .int .u64 0], []⟩
  | 21 => some ⟨.int .i32, 1, 4, false, [.int .i32 0], []⟩
  | 22 => some ⟨.int .u64, 1, 8, false, [.int .u64 0], []⟩
  | 23 => some ⟨.arr 4 22, 4, 32, true, [.int .u64 0, .int .u64 0, .int .u64 0, .int .u64 0], [.int .u64, .int .u64, .int .u64, .int .u64]⟩
  | 24 => some ⟨.arr 4 22, 4, 32, true, [.int .u64 0, .int .u64 0, .int .u64 0, .int .u64 0], [.int .u64, .int .u64, .int .u64, .int .u64]⟩
  | 26 => some ⟨.int .i64, 1, 8, false, [.int .i64 0], []⟩
  | 31 => some ⟨.struct [(0, 3), (1, 4), (2, 4), (3, 3), (4, 24)], 8, 56, true, [.int .i64 0, .bool false, .bool false, .int .i64 0, .int .u64 0, .int .u64 0, .int .u64 0, .int .u64 0], []⟩
  | 37 => some ⟨.int .u64, 1, 8, false, [.int .u64 0], []⟩
  | 40 => some ⟨.slice 22, 1, 24, false, [.slice none 0 0], []⟩
  | 46 => some ⟨.struct [(0, 3), (1, 9), (2, 3), (3, 3), (4, 3), (5, 3), (6, 3), (7, 3), (8, 3), (9, 4)], 10, 88, true, [.int .i64 0, .string ⟨#[]⟩, .int .i64 0, .int .i64 0, .int .i64 0, .int .i64 0, .int .i64 0, .int .i64 0, .int .i64 0, .bool false], []⟩
  | 56 => some ⟨.struct [(0, 3), (1, 9), (2, 3), (3, 3), (4, 3), (5, 3), (6, 3), (7, 3), (8, 3), (9, 4)], 10, 88, true, [.int .i64 0, .string ⟨#[]⟩, .int .i64 0, .int .i64 0, .int .i64 0, .int .i64 0, .int .i64 0, .int .i64 0, .int .i64 0, .bool false], []⟩
  | 65 => some ⟨.struct [(0, 3), (1, 4), (2, 4), (3, 9), (4, 3)], 5, 40, true, [.int .i64 0, .bool false, .bool false, .string ⟨#[]⟩, .int .i64 0], []⟩
  | 71 => some ⟨.slice 9, 1, 24, false, [.slice none 0 0], []⟩
  | 80 => some ⟨.struct [(0, 3), (1, 4), (2, 4), (3, 9), (4, 3)], 5, 40, true, [.int .i64 0, .bool false, .bool false, .string ⟨#[]⟩, .int .i64 0], []⟩
  | 85 => some ⟨.slice 5, 1, 24, false, [.slice none 0 0], []⟩
  | 88 => some ⟨.slice 46, 1, 24, false, [.slice none 0 0], []⟩
  | 107 => some ⟨.arr 24 5, 24, 24, true, [.int .u8 0, .int .u8 0, .int .u8 0, .int .u8 0, .int .u8 0, .int .u8 0, .int .u8 0, .int .u8 0, .int .u8 0, .int .u8 0, .int .u8 0, .int .u8 0, .int .u8 0, .int .u8 0, .int .u8 0, .int .u8 0, .int .u8 0, .int .u8 0, .int .u8 0, .int .u8 0, .int .u8 0, .int .u8 0, .int .u8 0, .int .u8 0], []⟩
  | 115 => some ⟨.int .u32, 1, 4, false, [.int .u32 0], []⟩
  | 128 => some ⟨.arr 20 22, 20, 160, true, [.int .u64 0, .int .u64 0, .int .u64 0, .int .u64 0, .int .u64 0, .int .u64 0, .int .u64 0, .int .u64 0, .int .u64 0, .int .u64 0, .int .u64 0, .int .u64 0, .int .u64 0, .int .u64 0, .int .u64 0, .int .u64 0, .int .u64 0, .int .u64 0, .int .u64 0, .int .u64 0], []⟩
  | 140 => some ⟨.arr 32 5, 32, 32, true, [.int .u8 0, .int .u8 0, .int .u8 0, .int .u8 0, .int .u8 0, .int .u8 0, .int .u8 0, .int .u8 0, .int .u8 0, .int .u8 0, .int .u8 0, .int .u8 0, .int .u8 0, .int .u8 0, .int .u8 0, .int .u8 0, .int .u8 0, .int .u8 0, .int .u8 0, .int .u8 0, .int .u8 0, .int .u8 0, .int .u8 0, .int .u8 0, .int .u8 0, .int .u8 0, .int .u8 0, .int .u8 0, .int .u8 0, .int .u8 0, .int .u8 0, .int .u8 0], []⟩
  | 141 => some ⟨.arr 64 5, 64, 64, true, [.int .u8 0, .int .u8 0, .int .u8 0, .int .u8 0, .int .u8 0, .int .u8 0, .int .u8 0, .int .u8 0, .int .u8 0, .int .u8 0, .int .u8 0, .int .u8 0, .int .u8 0, .int .u8 0, .int .u8 0, .int .u8 0, .int .u8 0, .int .u8 0, .int .u8 0, .int .u8 0, .int .u8 0, .int .u8 0, .int .u8 0, .int .u8 0, .int .u8 0, .int .u8 0, .int .u8 0, .int .u8 0, .int .u8 0, .int .u8 0, .int .u8 0, .int .u8 0, .int .u8 0, .int .u8 0, .int .u8 0, .int .u8 0, .int .u8 0, .int .u8 0, .int .u8 0, .int .u8 0, .int .u8 0, .int .u8 0, .int .u8 0, .int .u8 0, .int .u8 0, .int .u8 0, .int .u8 0, .int .u8 0, .int .u8 0, .int .u8 0, .int .u8 0, .int .u8 0, .int .u8 0, .int .u8 0, .int .u8 0, .int .u8 0, .int .u8 0, .int .u8 0, .int .u8 0, .int .u8 0, .int .u8 0, .int .u8 0, .int .u8 0, .int .u8 0], []⟩
  | 144 => some ⟨.struct [(0, 5), (1, 5)], 2, 2, true, [.int .u8 0, .int .u8 0], []⟩
  | 145 => some ⟨.arr 16 144, 32, 32, true, [.int .u8 0, .int .u8 0, .int .u8 0, .int .u8 0, .int .u8 0, .int .u8 0, .int .u8 0, .int .u8 0, .int .u8 0, .int .u8 0, .int .u8 0, .int .u8 0, .int .u8 0, .int .u8 0, .int .u8 0, .int .u8 0, .int .u8 0, .int .u8 0, .int .u8 0, .int .u8 0, .int .u8 0, .int .u8 0, .int .u8 0, .int .u8 0, .int .u8 0, .int .u8 0, .int .u8 0, .int .u8 0, .int .u8 0, .int .u8 0, .int .u8 0, .int .u8 0], []⟩
  | 156 => some ⟨.int .u8, 1, 1, false, [.int .u8 0], []⟩
  | _ => none
theorem ty_2 : ty 2 = some ⟨.int .i64, 1, 8, false, [.int .i64 0], []⟩ := rfl
theorem tyok_2 : TyOk Tryz.prog 2 ⟨.int .i64, 1, 8, false, [.int .i64 0], []⟩ := by
  have hu : Tryz.prog.underlying 2 = _ := (by kernel_rfl : Tryz.prog.underlying 2 = some (TypeDesc.int IntKind.i64))
  refine ⟨⟨Tryz.t2, by kernel_rfl, rfl, rfl, _, rfl, rfl⟩, ⟨rfl, rfl⟩, ⟨hu, rfl, rfl, rfl⟩, ?_⟩
  exact fun h => absurd rfl h
theorem ty_3 : ty 3 = some ⟨.int .i64, 1, 8, false, [.int .i64 0], []⟩ := rfl
theorem tyok_3 : TyOk Tryz.prog 3 ⟨.int .i64, 1, 8, false, [.int .i64 0], []⟩ := by
  have hu : Tryz.prog.underlying 3 = _ := (by kernel_rfl : Tryz.prog.underlying 3 = some (TypeDesc.int IntKind.i64))
  refine ⟨⟨Tryz.t3, by kernel_rfl, rfl, rfl, _, rfl, rfl⟩, ⟨rfl, rfl⟩, ⟨hu, rfl, rfl, rfl⟩, ?_⟩
  exact fun h => absurd rfl h
theorem ty_4 : ty 4 = some ⟨.bool, 1, 1, false, [.bool false], []⟩ := rfl
theorem tyok_4 : TyOk Tryz.prog 4 ⟨.bool, 1, 1, false, [.bool false], []⟩ := by
  have hu : Tryz.prog.underlying 4 = _ := (by kernel_rfl : Tryz.prog.underlying 4 = some (TypeDesc.bool ))
  refine ⟨⟨Tryz.t4, by kernel_rfl, rfl, rfl, _, rfl, rfl⟩, ⟨rfl, rfl⟩, ⟨hu, rfl⟩, ?_⟩
  exact fun h => absurd rfl h
theorem ty_5 : ty 5 = some ⟨.int .u8, 1, 1, false, [.int .u8 0], []⟩ := rfl
theorem tyok_5 : TyOk Tryz.prog 5 ⟨.int .u8, 1, 1, false, [.int .u8 0], []⟩ := by
  have hu : Tryz.prog.underlying 5 = _ := (by kernel_rfl : Tryz.prog.underlying 5 = some (TypeDesc.int IntKind.u8))
  refine ⟨⟨Tryz.t5, by kernel_rfl, rfl, rfl, _, rfl, rfl⟩, ⟨rfl, rfl⟩, ⟨hu, rfl, rfl, rfl⟩, ?_⟩
  exact fun h => absurd rfl h
theorem ty_6 : ty 6 = some ⟨.int .u8, 1, 1, false, [.int .u8 0], []⟩ := rfl
theorem tyok_6 : TyOk Tryz.prog 6 ⟨.int .u8, 1, 1, false, [.int .u8 0], []⟩ := by
  have hu : Tryz.prog.underlying 6 = _ := (by kernel_rfl : Tryz.prog.underlying 6 = some (TypeDesc.int IntKind.u8))
  refine ⟨⟨Tryz.t6, by kernel_rfl, rfl, rfl, _, rfl, rfl⟩, ⟨rfl, rfl⟩, ⟨hu, rfl, rfl, rfl⟩, ?_⟩
  exact fun h => absurd rfl h
theorem ty_8 : ty 8 = some ⟨.struct [(0, 2), (1, 3), (2, 4), (3, 6)], 4, 24, true, [.int .i64 0, .int .i64 0, .bool false, .int .u8 0], []⟩ := rfl
theorem tyok_8 : TyOk Tryz.prog 8 ⟨.struct [(0, 2), (1, 3), (2, 4), (3, 6)], 4, 24, true, [.int .i64 0, .int .i64 0, .bool false, .int .u8 0], []⟩ := by
  have hu : Tryz.prog.underlying 8 = _ := (by kernel_rfl : Tryz.prog.underlying 8 = some (TypeDesc.struct #[{ name := "x", type := 2, offset := 0, embedded := false, tag := "", pkgPath := "runtime", byteOffset := 0 }, { name := "y", type := 3, offset := 1, embedded := false, tag := "", pkgPath := "runtime", byteOffset := 8 }, { name := "signed", type := 4, offset := 2, embedded := false, tag := "", pkgPath := "runtime", byteOffset := 16 }, { name := "code", type := 6, offset := 3, embedded := false, tag := "", pkgPath := "runtime", byteOffset := 17 }]))
  refine ⟨⟨Tryz.t8, by kernel_rfl, rfl, rfl, _, rfl, rfl⟩, ⟨rfl, rfl⟩, ⟨rfl, _, hu, rfl, fun f hf => by
    simp only [List.mem_toArray, List.mem_cons, List.not_mem_nil, or_false] at hf
    rcases hf with rfl | rfl | rfl | rfl
    all_goals first | exact ⟨_, (by kernel_rfl : Tryz.prog.info? 2 = some Tryz.t2), by decide⟩ | exact ⟨_, (by kernel_rfl : Tryz.prog.info? 3 = some Tryz.t3), by decide⟩ | exact ⟨_, (by kernel_rfl : Tryz.prog.info? 4 = some Tryz.t4), by decide⟩ | exact ⟨_, (by kernel_rfl : Tryz.prog.info? 6 = some Tryz.t6), by decide⟩⟩, ?_⟩
  exact fun h => absurd rfl h
theorem ty_9 : ty 9 = some ⟨.str, 1, 16, false, [.string ⟨#[]⟩], []⟩ := rfl
theorem tyok_9 : TyOk Tryz.prog 9 ⟨.str, 1, 16, false, [.string ⟨#[]⟩], []⟩ := by
  have hu : Tryz.prog.underlying 9 = _ := (by kernel_rfl : Tryz.prog.underlying 9 = some (TypeDesc.string ))
  refine ⟨⟨Tryz.t9, by kernel_rfl, rfl, rfl, _, rfl, rfl⟩, ⟨rfl, rfl⟩, ⟨hu, rfl⟩, ?_⟩
  exact fun h => absurd rfl h
theorem ty_10 : ty 10 = some ⟨.str, 1, 16, false, [.string ⟨#[]⟩], []⟩ := rfl
theorem tyok_10 : TyOk Tryz.prog 10 ⟨.str, 1, 16, false, [.string ⟨#[]⟩], []⟩ := by
  have hu : Tryz.prog.underlying 10 = _ := (by kernel_rfl : Tryz.prog.underlying 10 = some (TypeDesc.string ))
  refine ⟨⟨Tryz.t10, by kernel_rfl, rfl, rfl, _, rfl, rfl⟩, ⟨rfl, rfl⟩, ⟨hu, rfl⟩, ?_⟩
  exact fun h => absurd rfl h
theorem ty_11 : ty 11 = some ⟨.str, 1, 16, false, [.string ⟨#[]⟩], []⟩ := rfl
theorem tyok_11 : TyOk Tryz.prog 11 ⟨.str, 1, 16, false, [.string ⟨#[]⟩], []⟩ := by
  have hu : Tryz.prog.underlying 11 = _ := (by kernel_rfl : Tryz.prog.underlying 11 = some (TypeDesc.string ))
  refine ⟨⟨Tryz.t11, by kernel_rfl, rfl, rfl, _, rfl, rfl⟩, ⟨rfl, rfl⟩, ⟨hu, rfl⟩, ?_⟩
  exact fun h => absurd rfl h
theorem ty_12 : ty 12 = some ⟨.int .u64, 1, 8, false, [.int .u64 0], []⟩ := rfl
theorem tyok_12 : TyOk Tryz.prog 12 ⟨.int .u64, 1, 8, false, [.int .u64 0], []⟩ := by
  have hu : Tryz.prog.underlying 12 = _ := (by kernel_rfl : Tryz.prog.underlying 12 = some (TypeDesc.int IntKind.u64))
  refine ⟨⟨Tryz.t12, by kernel_rfl, rfl, rfl, _, rfl, rfl⟩, ⟨rfl, rfl⟩, ⟨hu, rfl, rfl, rfl⟩, ?_⟩
  exact fun h => absurd rfl h
theorem ty_14 : ty 14 = some ⟨.struct [(0, 9), (1, 12)], 2, 24, true, [.string ⟨#[]⟩, .int .u64 0], []⟩ := rfl
theorem tyok_14 : TyOk Tryz.prog 14 ⟨.struct [(0, 9), (1, 12)], 2, 24, true, [.string ⟨#[]⟩, .int .u64 0], []⟩ := by
  have hu : Tryz.prog.underlying 14 = _ := (by kernel_rfl : Tryz.prog.underlying 14 = some (TypeDesc.struct #[{ name := "msg", type := 9, offset := 0, embedded := false, tag := "", pkgPath := "runtime", byteOffset := 0 }, { name := "addr", type := 12, offset := 1, embedded := false, tag := "", pkgPath := "runtime", byteOffset := 16 }]))
  refine ⟨⟨Tryz.t14, by kernel_rfl, rfl, rfl, _, rfl, rfl⟩, ⟨rfl, rfl⟩, ⟨rfl, _, hu, rfl, fun f hf => by
    simp only [List.mem_toArray, List.mem_cons, List.not_mem_nil, or_false] at hf
    rcases hf with rfl | rfl
    all_goals first | exact ⟨_, (by kernel_rfl : Tryz.prog.info? 12 = some Tryz.t12), by decide⟩ | exact ⟨_, (by kernel_rfl : Tryz.prog.info? 9 = some Tryz.t9), by decide⟩⟩, ?_⟩
  exact fun h => absurd rfl h
theorem ty_21 : ty 21 = some ⟨.int .i32, 1, 4, false, [.int .i32 0], []⟩ := rfl
theorem tyok_21 : TyOk Tryz.prog 21 ⟨.int .i32, 1, 4, false, [.int .i32 0], []⟩ := by
  have hu : Tryz.prog.underlying 21 = _ := (by kernel_rfl : Tryz.prog.underlying 21 = some (TypeDesc.int IntKind.i32))
  refine ⟨⟨Tryz.t21, by kernel_rfl, rfl, rfl, _, rfl, rfl⟩, ⟨rfl, rfl⟩, ⟨hu, rfl, rfl, rfl⟩, ?_⟩
  exact fun h => absurd rfl h
theorem ty_22 : ty 22 = some ⟨.int .u64, 1, 8, false, [.int .u64 0], []⟩ := rfl
theorem tyok_22 : TyOk Tryz.prog 22 ⟨.int .u64, 1, 8, false, [.int .u64 0], []⟩ := by
  have hu : Tryz.prog.underlying 22 = _ := (by kernel_rfl : Tryz.prog.underlying 22 = some (TypeDesc.int IntKind.u64))
  refine ⟨⟨Tryz.t22, by kernel_rfl, rfl, rfl, _, rfl, rfl⟩, ⟨rfl, rfl⟩, ⟨hu, rfl, rfl, rfl⟩, ?_⟩
  exact fun h => absurd rfl h
theorem ty_23 : ty 23 = some ⟨.arr 4 22, 4, 32, true, [.int .u64 0, .int .u64 0, .int .u64 0, .int .u64 0], [.int .u64, .int .u64, .int .u64, .int .u64]⟩ := rfl
theorem tyok_23 : TyOk Tryz.prog 23 ⟨.arr 4 22, 4, 32, true, [.int .u64 0, .int .u64 0, .int .u64 0, .int .u64 0], [.int .u64, .int .u64, .int .u64, .int .u64]⟩ := by
  have hu : Tryz.prog.underlying 23 = _ := (by kernel_rfl : Tryz.prog.underlying 23 = some (TypeDesc.array 4 22))
  refine ⟨⟨Tryz.t23, by kernel_rfl, rfl, rfl, _, rfl, rfl⟩, ⟨rfl, rfl⟩, ⟨hu, rfl⟩, ?_⟩
  exact fun _ => ⟨by kernel_rfl, eq4_ok hu tyok_22.kind.1 tyok_22.run_size tyok_22.run_isAgg⟩
theorem ty_24 : ty 24 = some ⟨.arr 4 22, 4, 32, true, [.int .u64 0, .int .u64 0, .int .u64 0, .int .u64 0], [.int .u64, .int .u64, .int .u64, .int .u64]⟩ := rfl
theorem tyok_24 : TyOk Tryz.prog 24 ⟨.arr 4 22, 4, 32, true, [.int .u64 0, .int .u64 0, .int .u64 0, .int .u64 0], [.int .u64, .int .u64, .int .u64, .int .u64]⟩ := by
  have hu : Tryz.prog.underlying 24 = _ := (by kernel_rfl : Tryz.prog.underlying 24 = some (TypeDesc.array 4 22))
  refine ⟨⟨Tryz.t24, by kernel_rfl, rfl, rfl, _, rfl, rfl⟩, ⟨rfl, rfl⟩, ⟨hu, rfl⟩, ?_⟩
  exact fun _ => ⟨by kernel_rfl, eq4_ok hu tyok_22.kind.1 tyok_22.run_size tyok_22.run_isAgg⟩
theorem ty_26 : ty 26 = some ⟨.int .i64, 1, 8, false, [.int .i64 0], []⟩ := rfl
theorem tyok_26 : TyOk Tryz.prog 26 ⟨.int .i64, 1, 8, false, [.int .i64 0], []⟩ := by
  have hu : Tryz.prog.underlying 26 = _ := (by kernel_rfl : Tryz.prog.underlying 26 = some (TypeDesc.int IntKind.i64))
  refine ⟨⟨Tryz.t26, by kernel_rfl, rfl, rfl, _, rfl, rfl⟩, ⟨rfl, rfl⟩, ⟨hu, rfl, rfl, rfl⟩, ?_⟩
  exact fun h => absurd rfl h
theorem ty_31 : ty 31 = some ⟨.struct [(0, 3), (1, 4), (2, 4), (3, 3), (4, 24)], 8, 56, true, [.int .i64 0, .bool false, .bool false, .int .i64 0, .int .u64 0, .int .u64 0, .int .u64 0, .int .u64 0], []⟩ := rfl
theorem tyok_31 : TyOk Tryz.prog 31 ⟨.struct [(0, 3), (1, 4), (2, 4), (3, 3), (4, 24)], 8, 56, true, [.int .i64 0, .bool false, .bool false, .int .i64 0, .int .u64 0, .int .u64 0, .int .u64 0, .int .u64 0], []⟩ := by
  have hu : Tryz.prog.underlying 31 = _ := (by kernel_rfl : Tryz.prog.underlying 31 = some (TypeDesc.struct #[{ name := "Class", type := 3, offset := 0, embedded := false, tag := "", pkgPath := "", byteOffset := 0 }, { name := "Sign", type := 4, offset := 1, embedded := false, tag := "", pkgPath := "", byteOffset := 8 }, { name := "Signal", type := 4, offset := 2, embedded := false, tag := "", pkgPath := "", byteOffset := 9 }, { name := "Exp", type := 3, offset := 3, embedded := false, tag := "", pkgPath := "", byteOffset := 16 }, { name := "Coef", type := 24, offset := 4, embedded := false, tag := "", pkgPath := "", byteOffset := 24 }]))
  refine ⟨⟨Tryz.t31, by kernel_rfl, rfl, rfl, _, rfl, rfl⟩, ⟨rfl, rfl⟩, ⟨rfl, _, hu, rfl, fun f hf => by
    simp only [List.mem_toArray, List.mem_cons, List.not_mem_nil, or_false] at hf
    rcases hf with rfl | rfl | rfl | rfl | rfl
    all_goals first | exact ⟨_, (by kernel_rfl : Tryz.prog.info? 24 = some Tryz.t24), by decide⟩ | exact ⟨_, (by kernel_rfl : Tryz.prog.info? 3 = some Tryz.t3), by decide⟩ | exact ⟨_, (by kernel_rfl : Tryz.prog.info? 4 = some Tryz.t4), by decide⟩⟩, ?_⟩
  exact fun h => absurd rfl h
theorem ty_37 : ty 37 = some ⟨.int .u64, 1, 8, false, [.int .u64 0], []⟩ := rfl
theorem tyok_37 : TyOk Tryz.prog 37 ⟨.int .u64, 1, 8, false, [.int .u64 0], []⟩ := by
  have hu : Tryz.prog.underlying 37 = _ := (by kernel_rfl : Tryz.prog.underlying 37 = some (TypeDesc.int IntKind.u64))
  refine ⟨⟨Tryz.t37, by kernel_rfl, rfl, rfl, _, rfl, rfl⟩, ⟨rfl, rfl⟩, ⟨hu, rfl, rfl, rfl⟩, ?_⟩
  exact fun h => absurd rfl h
theorem ty_40 : ty 40 = some ⟨.slice 22, 1, 24, false, [.slice none 0 0], []⟩ := rfl
theorem tyok_40 : TyOk Tryz.prog 40 ⟨.slice 22, 1, 24, false, [.slice none 0 0], []⟩ := by
  have hu : Tryz.prog.underlying 40 = _ := (by kernel_rfl : Tryz.prog.underlying 40 = some (TypeDesc.slice 22))
  refine ⟨⟨Tryz.t40, by kernel_rfl, rfl, rfl, _, rfl, rfl⟩, ⟨rfl, rfl⟩, ⟨hu, rfl⟩, ?_⟩
  exact fun h => absurd rfl h
theorem ty_46 : ty 46 = some ⟨.struct [(0, 3), (1, 9), (2, 3), (3, 3), (4, 3), (5, 3), (6, 3), (7, 3), (8, 3), (9, 4)], 10, 88, true, [.int .i64 0, .string ⟨#[]⟩, .int .i64 0, .int .i64 0, .int .i64 0, .int .i64 0, .int .i64 0, .int .i64 0, .int .i64 0, .bool false], []⟩ := rfl
theorem tyok_46 : TyOk Tryz.prog 46 ⟨.struct [(0, 3), (1, 9), (2, 3), (3, 3), (4, 3), (5, 3), (6, 3), (7, 3), (8, 3), (9, 4)], 10, 88, true, [.int .i64 0, .string ⟨#[]⟩, .int .i64 0, .int .i64 0, .int .i64 0, .int .i64 0, .int .i64 0, .int .i64 0, .int .i64 0, .bool false], []⟩ := by
  have hu : Tryz.prog.underlying 46 = _ := (by kernel_rfl : Tryz.prog.underlying 46 = some (TypeDesc.struct #[{ name := "Number", type := 3, offset := 0, embedded := false, tag := "", pkgPath := "", byteOffset := 0 }, { name := "Name", type := 9, offset := 1, embedded := false, tag := "", pkgPath := "", byteOffset := 8 }, { name := "Base", type := 3, offset := 2, embedded := false, tag := "", pkgPath := "", byteOffset := 24 }, { name := "Width", type := 3, offset := 3, embedded := false, tag := "", pkgPath := "", byteOffset := 32 }, { name := "Precision", type := 3, offset := 4, embedded := false, tag := "", pkgPath := "", byteOffset := 40 }, { name := "Exponent", type := 3, offset := 5, embedded := false, tag := "", pkgPath := "", byteOffset := 48 }, { name := "Least", type := 3, offset := 6, embedded := false, tag := "", pkgPath := "", byteOffset := 56 }, { name := "Most", type := 3, offset := 7, embedded := false, tag := "", pkgPath := "", byteOffset := 64 }, { name := "Payload", type := 3, offset := 8, embedded := false, tag := "", pkgPath := "", byteOffset := 72 }, { name := "Dense", type := 4, offset := 9, embedded := false, tag := "", pkgPath := "", byteOffset := 80 }]))
  refine ⟨⟨Tryz.t46, by kernel_rfl, rfl, rfl, _, rfl, rfl⟩, ⟨rfl, rfl⟩, ⟨rfl, _, hu, rfl, fun f hf => by
    simp only [List.mem_toArray, List.mem_cons, List.not_mem_nil, or_false] at hf
    rcases hf with rfl | rfl | rfl | rfl | rfl | rfl | rfl | rfl | rfl | rfl
    all_goals first | exact ⟨_, (by kernel_rfl : Tryz.prog.info? 3 = some Tryz.t3), by decide⟩ | exact ⟨_, (by kernel_rfl : Tryz.prog.info? 4 = some Tryz.t4), by decide⟩ | exact ⟨_, (by kernel_rfl : Tryz.prog.info? 9 = some Tryz.t9), by decide⟩⟩, ?_⟩
  exact fun h => absurd rfl h
theorem ty_56 : ty 56 = some ⟨.struct [(0, 3), (1, 9), (2, 3), (3, 3), (4, 3), (5, 3), (6, 3), (7, 3), (8, 3), (9, 4)], 10, 88, true, [.int .i64 0, .string ⟨#[]⟩, .int .i64 0, .int .i64 0, .int .i64 0, .int .i64 0, .int .i64 0, .int .i64 0, .int .i64 0, .bool false], []⟩ := rfl
theorem tyok_56 : TyOk Tryz.prog 56 ⟨.struct [(0, 3), (1, 9), (2, 3), (3, 3), (4, 3), (5, 3), (6, 3), (7, 3), (8, 3), (9, 4)], 10, 88, true, [.int .i64 0, .string ⟨#[]⟩, .int .i64 0, .int .i64 0, .int .i64 0, .int .i64 0, .int .i64 0, .int .i64 0, .int .i64 0, .bool false], []⟩ := by
  have hu : Tryz.prog.underlying 56 = _ := (by kernel_rfl : Tryz.prog.underlying 56 = some (TypeDesc.struct #[{ name := "Number", type := 3, offset := 0, embedded := false, tag := "", pkgPath := "", byteOffset := 0 }, { name := "Name", type := 9, offset := 1, embedded := false, tag := "", pkgPath := "", byteOffset := 8 }, { name := "Base", type := 3, offset := 2, embedded := false, tag := "", pkgPath := "", byteOffset := 24 }, { name := "Width", type := 3, offset := 3, embedded := false, tag := "", pkgPath := "", byteOffset := 32 }, { name := "Precision", type := 3, offset := 4, embedded := false, tag := "", pkgPath := "", byteOffset := 40 }, { name := "Exponent", type := 3, offset := 5, embedded := false, tag := "", pkgPath := "", byteOffset := 48 }, { name := "Least", type := 3, offset := 6, embedded := false, tag := "", pkgPath := "", byteOffset := 56 }, { name := "Most", type := 3, offset := 7, embedded := false, tag := "", pkgPath := "", byteOffset := 64 }, { name := "Payload", type := 3, offset := 8, embedded := false, tag := "", pkgPath := "", byteOffset := 72 }, { name := "Dense", type := 4, offset := 9, embedded := false, tag := "", pkgPath := "", byteOffset := 80 }]))
  refine ⟨⟨Tryz.t56, by kernel_rfl, rfl, rfl, _, rfl, rfl⟩, ⟨rfl, rfl⟩, ⟨rfl, _, hu, rfl, fun f hf => by
    simp only [List.mem_toArray, List.mem_cons, List.not_mem_nil, or_false] at hf
    rcases hf with rfl | rfl | rfl | rfl | rfl | rfl | rfl | rfl | rfl | rfl
    all_goals first | exact ⟨_, (by kernel_rfl : Tryz.prog.info? 3 = some Tryz.t3), by decide⟩ | exact ⟨_, (by kernel_rfl : Tryz.prog.info? 4 = some Tryz.t4), by decide⟩ | exact ⟨_, (by kernel_rfl : Tryz.prog.info? 9 = some Tryz.t9), by decide⟩⟩, ?_⟩
  exact fun h => absurd rfl h
theorem ty_65 : ty 65 = some ⟨.struct [(0, 3), (1, 4), (2, 4), (3, 9), (4, 3)], 5, 40, true, [.int .i64 0, .bool false, .bool false, .string ⟨#[]⟩, .int .i64 0], []⟩ := rfl
theorem tyok_65 : TyOk Tryz.prog 65 ⟨.struct [(0, 3), (1, 4), (2, 4), (3, 9), (4, 3)], 5, 40, true, [.int .i64 0, .bool false, .bool false, .string ⟨#[]⟩, .int .i64 0], []⟩ := by
  have hu : Tryz.prog.underlying 65 = _ := (by kernel_rfl : Tryz.prog.underlying 65 = some (TypeDesc.struct #[{ name := "Class", type := 3, offset := 0, embedded := false, tag := "", pkgPath := "", byteOffset := 0 }, { name := "Sign", type := 4, offset := 1, embedded := false, tag := "", pkgPath := "", byteOffset := 8 }, { name := "Signal", type := 4, offset := 2, embedded := false, tag := "", pkgPath := "", byteOffset := 9 }, { name := "Digits", type := 9, offset := 3, embedded := false, tag := "", pkgPath := "", byteOffset := 16 }, { name := "Exp", type := 3, offset := 4, embedded := false, tag := "", pkgPath := "", byteOffset := 32 }]))
  refine ⟨⟨Tryz.t65, by kernel_rfl, rfl, rfl, _, rfl, rfl⟩, ⟨rfl, rfl⟩, ⟨rfl, _, hu, rfl, fun f hf => by
    simp only [List.mem_toArray, List.mem_cons, List.not_mem_nil, or_false] at hf
    rcases hf with rfl | rfl | rfl | rfl | rfl
    all_goals first | exact ⟨_, (by kernel_rfl : Tryz.prog.info? 3 = some Tryz.t3), by decide⟩ | exact ⟨_, (by kernel_rfl : Tryz.prog.info? 4 = some Tryz.t4), by decide⟩ | exact ⟨_, (by kernel_rfl : Tryz.prog.info? 9 = some Tryz.t9), by decide⟩⟩, ?_⟩
  exact fun h => absurd rfl h
theorem ty_71 : ty 71 = some ⟨.slice 9, 1, 24, false, [.slice none 0 0], []⟩ := rfl
theorem tyok_71 : TyOk Tryz.prog 71 ⟨.slice 9, 1, 24, false, [.slice none 0 0], []⟩ := by
  have hu : Tryz.prog.underlying 71 = _ := (by kernel_rfl : Tryz.prog.underlying 71 = some (TypeDesc.slice 9))
  refine ⟨⟨Tryz.t71, by kernel_rfl, rfl, rfl, _, rfl, rfl⟩, ⟨rfl, rfl⟩, ⟨hu, rfl⟩, ?_⟩
  exact fun h => absurd rfl h
theorem ty_80 : ty 80 = some ⟨.struct [(0, 3), (1, 4), (2, 4), (3, 9), (4, 3)], 5, 40, true, [.int .i64 0, .bool false, .bool false, .string ⟨#[]⟩, .int .i64 0], []⟩ := rfl
theorem tyok_80 : TyOk Tryz.prog 80 ⟨.struct [(0, 3), (1, 4), (2, 4), (3, 9), (4, 3)], 5, 40, true, [.int .i64 0, .bool false, .bool false, .string ⟨#[]⟩, .int .i64 0], []⟩ := by
  have hu : Tryz.prog.underlying 80 = _ := (by kernel_rfl : Tryz.prog.underlying 80 = some (TypeDesc.struct #[{ name := "Class", type := 3, offset := 0, embedded := false, tag := "", pkgPath := "", byteOffset := 0 }, { name := "Sign", type := 4, offset := 1, embedded := false, tag := "", pkgPath := "", byteOffset := 8 }, { name := "Signal", type := 4, offset := 2, embedded := false, tag := "", pkgPath := "", byteOffset := 9 }, { name := "Digits", type := 9, offset := 3, embedded := false, tag := "", pkgPath := "", byteOffset := 16 }, { name := "Exp", type := 3, offset := 4, embedded := false, tag := "", pkgPath := "", byteOffset := 32 }]))
  refine ⟨⟨Tryz.t80, by kernel_rfl, rfl, rfl, _, rfl, rfl⟩, ⟨rfl, rfl⟩, ⟨rfl, _, hu, rfl, fun f hf => by
    simp only [List.mem_toArray, List.mem_cons, List.not_mem_nil, or_false] at hf
    rcases hf with rfl | rfl | rfl | rfl | rfl
    all_goals first | exact ⟨_, (by kernel_rfl : Tryz.prog.info? 3 = some Tryz.t3), by decide⟩ | exact ⟨_, (by kernel_rfl : Tryz.prog.info? 4 = some Tryz.t4), by decide⟩ | exact ⟨_, (by kernel_rfl : Tryz.prog.info? 9 = some Tryz.t9), by decide⟩⟩, ?_⟩
  exact fun h => absurd rfl h
theorem ty_85 : ty 85 = some ⟨.slice 5, 1, 24, false, [.slice none 0 0], []⟩ := rfl
theorem tyok_85 : TyOk Tryz.prog 85 ⟨.slice 5, 1, 24, false, [.slice none 0 0], []⟩ := by
  have hu : Tryz.prog.underlying 85 = _ := (by kernel_rfl : Tryz.prog.underlying 85 = some (TypeDesc.slice 5))
  refine ⟨⟨Tryz.t85, by kernel_rfl, rfl, rfl, _, rfl, rfl⟩, ⟨rfl, rfl⟩, ⟨hu, rfl⟩, ?_⟩
  exact fun h => absurd rfl h
theorem ty_88 : ty 88 = some ⟨.slice 46, 1, 24, false, [.slice none 0 0], []⟩ := rfl
theorem tyok_88 : TyOk Tryz.prog 88 ⟨.slice 46, 1, 24, false, [.slice none 0 0], []⟩ := by
  have hu : Tryz.prog.underlying 88 = _ := (by kernel_rfl : Tryz.prog.underlying 88 = some (TypeDesc.slice 46))
  refine ⟨⟨Tryz.t88, by kernel_rfl, rfl, rfl, _, rfl, rfl⟩, ⟨rfl, rfl⟩, ⟨hu, rfl⟩, ?_⟩
  exact fun h => absurd rfl h
theorem ty_107 : ty 107 = some ⟨.arr 24 5, 24, 24, true, [.int .u8 0, .int .u8 0, .int .u8 0, .int .u8 0, .int .u8 0, .int .u8 0, .int .u8 0, .int .u8 0, .int .u8 0, .int .u8 0, .int .u8 0, .int .u8 0, .int .u8 0, .int .u8 0, .int .u8 0, .int .u8 0, .int .u8 0, .int .u8 0, .int .u8 0, .int .u8 0, .int .u8 0, .int .u8 0, .int .u8 0, .int .u8 0], []⟩ := rfl
theorem tyok_107 : TyOk Tryz.prog 107 ⟨.arr 24 5, 24, 24, true, [.int .u8 0, .int .u8 0, .int .u8 0, .int .u8 0, .int .u8 0, .int .u8 0, .int .u8 0, .int .u8 0, .int .u8 0, .int .u8 0, .int .u8 0, .int .u8 0, .int .u8 0, .int .u8 0, .int .u8 0, .int .u8 0, .int .u8 0, .int .u8 0, .int .u8 0, .int .u8 0, .int .u8 0, .int .u8 0, .int .u8 0, .int .u8 0], []⟩ := by
  have hu : Tryz.prog.underlying 107 = _ := (by kernel_rfl : Tryz.prog.underlying 107 = some (TypeDesc.array 24 5))
  refine ⟨⟨Tryz.t107, by kernel_rfl, rfl, rfl, _, rfl, rfl⟩, ⟨rfl, rfl⟩, ⟨hu, rfl⟩, ?_⟩
  exact fun h => absurd rfl h
theorem ty_115 : ty 115 = some ⟨.int .u32, 1, 4, false, [.int .u32 0], []⟩ := rfl
theorem tyok_115 : TyOk Tryz.prog 115 ⟨.int .u32, 1, 4, false, [.int .u32 0], []⟩ := by
  have hu : Tryz.prog.underlying 115 = _ := (by kernel_rfl : Tryz.prog.underlying 115 = some (TypeDesc.int IntKind.u32))
  refine ⟨⟨Tryz.t115, by kernel_rfl, rfl, rfl, _, rfl, rfl⟩, ⟨rfl, rfl⟩, ⟨hu, rfl, rfl, rfl⟩, ?_⟩
  exact fun h => absurd rfl h
theorem ty_128 : ty 128 = some ⟨.arr 20 22, 20, 160, true, [.int .u64 0, .int .u64 0, .int .u64 0, .int .u64 0, .int .u64 0, .int .u64 0, .int .u64 0, .int .u64 0, .int .u64 0, .int .u64 0, .int .u64 0, .int .u64 0, .int .u64 0, .int .u64 0, .int .u64 0, .int .u64 0, .int .u64 0, .int .u64 0, .int .u64 0, .int .u64 0], []⟩ := rfl
theorem tyok_128 : TyOk Tryz.prog 128 ⟨.arr 20 22, 20, 160, true, [.int .u64 0, .int .u64 0, .int .u64 0, .int .u64 0, .int .u64 0, .int .u64 0, .int .u64 0, .int .u64 0, .int .u64 0, .int .u64 0, .int .u64 0, .int .u64 0, .int .u64 0, .int .u64 0, .int .u64 0, .int .u64 0, .int .u64 0, .int .u64 0, .int .u64 0, .int .u64 0], []⟩ := by
  have hu : Tryz.prog.underlying 128 = _ := (by kernel_rfl : Tryz.prog.underlying 128 = some (TypeDesc.array 20 22))
  refine ⟨⟨Tryz.t128, by kernel_rfl, rfl, rfl, _, rfl, rfl⟩, ⟨rfl, rfl⟩, ⟨hu, rfl⟩, ?_⟩
  exact fun h => absurd rfl h
theorem ty_140 : ty 140 = some ⟨.arr 32 5, 32, 32, true, [.int .u8 0, .int .u8 0, .int .u8 0, .int .u8 0, .int .u8 0, .int .u8 0, .int .u8 0, .int .u8 0, .int .u8 0, .int .u8 0, .int .u8 0, .int .u8 0, .int .u8 0, .int .u8 0, .int .u8 0, .int .u8 0, .int .u8 0, .int .u8 0, .int .u8 0, .int .u8 0, .int .u8 0, .int .u8 0, .int .u8 0, .int .u8 0, .int .u8 0, .int .u8 0, .int .u8 0, .int .u8 0, .int .u8 0, .int .u8 0, .int .u8 0, .int .u8 0], []⟩ := rfl
theorem tyok_140 : TyOk Tryz.prog 140 ⟨.arr 32 5, 32, 32, true, [.int .u8 0, .int .u8 0, .int .u8 0, .int .u8 0, .int .u8 0, .int .u8 0, .int .u8 0, .int .u8 0, .int .u8 0, .int .u8 0, .int .u8 0, .int .u8 0, .int .u8 0, .int .u8 0, .int .u8 0, .int .u8 0, .int .u8 0, .int .u8 0, .int .u8 0, .int .u8 0, .int .u8 0, .int .u8 0, .int .u8 0, .int .u8 0, .int .u8 0, .int .u8 0, .int .u8 0, .int .u8 0, .int .u8 0, .int .u8 0, .int .u8 0, .int .u8 0], []⟩ := by
  have hu : Tryz.prog.underlying 140 = _ := (by kernel_rfl : Tryz.prog.underlying 140 = some (TypeDesc.array 32 5))
  refine ⟨⟨Tryz.t140, by kernel_rfl, rfl, rfl, _, rfl, rfl⟩, ⟨rfl, rfl⟩, ⟨hu, rfl⟩, ?_⟩
  exact fun h => absurd rfl h
theorem ty_141 : ty 141 = some ⟨.arr 64 5, 64, 64, true, [.int .u8 0, .int .u8 0, .int .u8 0, .int .u8 0, .int .u8 0, .int .u8 0, .int .u8 0, .int .u8 0, .int .u8 0, .int .u8 0, .int .u8 0, .int .u8 0, .int .u8 0, .int .u8 0, .int .u8 0, .int .u8 0, .int .u8 0, .int .u8 0, .int .u8 0, .int .u8 0, .int .u8 0, .int .u8 0, .int .u8 0, .int .u8 0, .int .u8 0, .int .u8 0, .int .u8 0, .int .u8 0, .int .u8 0, .int .u8 0, .int .u8 0, .int .u8 0, .int .u8 0, .int .u8 0, .int .u8 0, .int .u8 0, .int .u8 0, .int .u8 0, .int .u8 0, .int .u8 0, .int .u8 0, .int .u8 0, .int .u8 0, .int .u8 0, .int .u8 0, .int .u8 0, .int .u8 0, .int .u8 0, .int .u8 0, .int .u8 0, .int .u8 0, .int .u8 0, .int .u8 0, .int .u8 0, .int .u8 0, .int .u8 0, .int .u8 0, .int .u8 0, .int .u8 0, .int .u8 0, .int .u8 0, .int .u8 0, .int .u8 0, .int .u8 0], []⟩ := rfl
theorem tyok_141 : TyOk Tryz.prog 141 ⟨.arr 64 5, 64, 64, true, [.int .u8 0, .int .u8 0, .int .u8 0, .int .u8 0, .int .u8 0, .int .u8 0, .int .u8 0, .int .u8 0, .int .u8 0, .int .u8 0, .int .u8 0, .int .u8 0, .int .u8 0, .int .u8 0, .int .u8 0, .int .u8 0, .int .u8 0, .int .u8 0, .int .u8 0, .int .u8 0, .int .u8 0, .int .u8 0, .int .u8 0, .int .u8 0, .int .u8 0, .int .u8 0, .int .u8 0, .int .u8 0, .int .u8 0, .int .u8 0, .int .u8 0, .int .u8 0, .int .u8 0, .int .u8 0, .int .u8 0, .int .u8 0, .int .u8 0, .int .u8 0, .int .u8 0, .int .u8 0, .int .u8 0, .int .u8 0, .int .u8 0, .int .u8 0, .int .u8 0, .int .u8 0, .int .u8 0, .int .u8 0, .int .u8 0, .int .u8 0, .int .u8 0, .int .u8 0, .int .u8 0, .int .u8 0, .int .u8 0, .int .u8 0, .int .u8 0, .int .u8 0, .int .u8 0, .int .u8 0, .int .u8 0, .int .u8 0, .int .u8 0, .int .u8 0], []⟩ := by
  have hu : Tryz.prog.underlying 141 = _ := (by kernel_rfl : Tryz.prog.underlying 141 = some (TypeDesc.array 64 5))
  refine ⟨⟨Tryz.t141, by kernel_rfl, rfl, rfl, _, rfl, rfl⟩, ⟨rfl, rfl⟩, ⟨hu, rfl⟩, ?_⟩
  exact fun h => absurd rfl h
theorem ty_144 : ty 144 = some ⟨.struct [(0, 5), (1, 5)], 2, 2, true, [.int .u8 0, .int .u8 0], []⟩ := rfl
theorem tyok_144 : TyOk Tryz.prog 144 ⟨.struct [(0, 5), (1, 5)], 2, 2, true, [.int .u8 0, .int .u8 0], []⟩ := by
  have hu : Tryz.prog.underlying 144 = _ := (by kernel_rfl : Tryz.prog.underlying 144 = some (TypeDesc.struct #[{ name := "lo", type := 5, offset := 0, embedded := false, tag := "", pkgPath := "unicode/utf8", byteOffset := 0 }, { name := "hi", type := 5, offset := 1, embedded := false, tag := "", pkgPath := "unicode/utf8", byteOffset := 1 }]))
  refine ⟨⟨Tryz.t144, by kernel_rfl, rfl, rfl, _, rfl, rfl⟩, ⟨rfl, rfl⟩, ⟨rfl, _, hu, rfl, fun f hf => by
    simp only [List.mem_toArray, List.mem_cons, List.not_mem_nil, or_false] at hf
    rcases hf with rfl | rfl
    all_goals first | exact ⟨_, (by kernel_rfl : Tryz.prog.info? 5 = some Tryz.t5), by decide⟩⟩, ?_⟩
  exact fun h => absurd rfl h
theorem ty_145 : ty 145 = some ⟨.arr 16 144, 32, 32, true, [.int .u8 0, .int .u8 0, .int .u8 0, .int .u8 0, .int .u8 0, .int .u8 0, .int .u8 0, .int .u8 0, .int .u8 0, .int .u8 0, .int .u8 0, .int .u8 0, .int .u8 0, .int .u8 0, .int .u8 0, .int .u8 0, .int .u8 0, .int .u8 0, .int .u8 0, .int .u8 0, .int .u8 0, .int .u8 0, .int .u8 0, .int .u8 0, .int .u8 0, .int .u8 0, .int .u8 0, .int .u8 0, .int .u8 0, .int .u8 0, .int .u8 0, .int .u8 0], []⟩ := rfl
theorem tyok_145 : TyOk Tryz.prog 145 ⟨.arr 16 144, 32, 32, true, [.int .u8 0, .int .u8 0, .int .u8 0, .int .u8 0, .int .u8 0, .int .u8 0, .int .u8 0, .int .u8 0, .int .u8 0, .int .u8 0, .int .u8 0, .int .u8 0, .int .u8 0, .int .u8 0, .int .u8 0, .int .u8 0, .int .u8 0, .int .u8 0, .int .u8 0, .int .u8 0, .int .u8 0, .int .u8 0, .int .u8 0, .int .u8 0, .int .u8 0, .int .u8 0, .int .u8 0, .int .u8 0, .int .u8 0, .int .u8 0, .int .u8 0, .int .u8 0], []⟩ := by
  have hu : Tryz.prog.underlying 145 = _ := (by kernel_rfl : Tryz.prog.underlying 145 = some (TypeDesc.array 16 144))
  refine ⟨⟨Tryz.t145, by kernel_rfl, rfl, rfl, _, rfl, rfl⟩, ⟨rfl, rfl⟩, ⟨hu, rfl⟩, ?_⟩
  exact fun h => absurd rfl h
theorem ty_156 : ty 156 = some ⟨.int .u8, 1, 1, false, [.int .u8 0], []⟩ := rfl
theorem tyok_156 : TyOk Tryz.prog 156 ⟨.int .u8, 1, 1, false, [.int .u8 0], []⟩ := by
  have hu : Tryz.prog.underlying 156 = _ := (by kernel_rfl : Tryz.prog.underlying 156 = some (TypeDesc.int IntKind.u8))
  refine ⟨⟨Tryz.t156, by kernel_rfl, rfl, rfl, _, rfl, rfl⟩, ⟨rfl, rfl⟩, ⟨hu, rfl, rfl, rfl⟩, ?_⟩
  exact fun h => absurd rfl h
theorem tysOk : TysOk Tryz.prog ty := by
  intro t i h
  unfold ty at h
  split at h
  · cases h; exact tyok_2
  · cases h; exact tyok_3
  · cases h; exact tyok_4
  · cases h; exact tyok_5
  · cases h; exact tyok_6
  · cases h; exact tyok_8
  · cases h; exact tyok_9
  · cases h; exact tyok_10
  · cases h; exact tyok_11
  · cases h; exact tyok_12
  · cases h; exact tyok_14
  · cases h; exact tyok_21
  · cases h; exact tyok_22
  · cases h; exact tyok_23
  · cases h; exact tyok_24
  · cases h; exact tyok_26
  · cases h; exact tyok_31
  · cases h; exact tyok_37
  · cases h; exact tyok_40
  · cases h; exact tyok_46
  · cases h; exact tyok_56
  · cases h; exact tyok_65
  · cases h; exact tyok_71
  · cases h; exact tyok_80
  · cases h; exact tyok_85
  · cases h; exact tyok_88
  · cases h; exact tyok_107
  · cases h; exact tyok_115
  · cases h; exact tyok_128
  · cases h; exact tyok_140
  · cases h; exact tyok_141
  · cases h; exact tyok_144
  · cases h; exact tyok_145
  · cases h; exact tyok_156
  · cases h

end Go.Proofs.AMT
namespace Go.AM
variable [Lay]
variable {P : Program}
def sF64bits : CSpec := fun ds => match ds with
  | [.v (.float .f64 b)] => some (True, .one (.v (.int .u64 b)))
  | _ => none
def sF64from : CSpec := fun ds => match ds with
  | [.v (.int .u64 n)] => some (True, .one (.v (.float .f64 n.toNat)))
  | _ => none
def sF32bits : CSpec := fun ds => match ds with
  | [.v (.float .f32 b)] => some (True, .one (.v (.int .u32 b)))
  | _ => none
def sF32from : CSpec := fun ds => match ds with
  | [.v (.int .u32 n)] => some (True, .one (.v (.float .f32 n.toNat)))
  | _ => none
def sAdd64 : CSpec := fun ds => match ds with
  | [.v (.int .u64 x), .v (.int .u64 y), .v (.int .u64 c)] => some (0 ≤ x ∧ 0 ≤ y ∧ 0 ≤ c ∧ c ≤ 1, .many [.v (.int .u64 ((x + y + c) % 18446744073709551616)), .v (.int .u64 ((x + y + c) / 18446744073709551616))])
  | _ => none
def sSub64 : CSpec := fun ds => match ds with
  | [.v (.int .u64 x), .v (.int .u64 y), .v (.int .u64 c)] => some (0 ≤ x ∧ x < 18446744073709551616 ∧ 0 ≤ y ∧ y < 18446744073709551616 ∧ 0 ≤ c ∧ c ≤ 1, .many [.v (.int .u64 ((x - y - c) % 18446744073709551616)), .v (.int .u64 (if x < y + c then 1 else 0))])
  | _ => none
def sAdd64B : CSpec := fun ds => match ds with
  | [.v (.int .u64 x), .v (.int .u64 y), .v (.int .u64 c)] => if 0 ≤ x ∧ 0 ≤ y ∧ 0 ≤ c ∧ c ≤ 1 then some (True, .many [.v (.int .u64 ((x + y + c) % 18446744073709551616)), .v (.int .u64 ((x + y + c) / 18446744073709551616))]) else none
  | _ => none
def sSub64B : CSpec := fun ds => match ds with
  | [.v (.int .u64 x), .v (.int .u64 y), .v (.int .u64 c)] => if 0 ≤ x ∧ x < 18446744073709551616 ∧ 0 ≤ y ∧ y < 18446744073709551616 ∧ 0 ≤ c ∧ c ≤ 1 then some (True, .many [.v (.int .u64 ((x - y - c) % 18446744073709551616)), .v (.int .u64 (if x < y + c then 1 else 0))]) else none
  | _ => none
theorem RepDs.v1 {w : World} {x : Value} {vs : List Value} (h : RepDs w [.v x] vs) : vs = [x] := by
  match vs, h with
  | [v], ⟨h1, _⟩ => exact congrArg (fun z => [z]) h1
theorem RepDs.v3 {w : World} {x y z : Value} {vs : List Value} (h : RepDs w [.v x, .v y, .v z] vs) : vs = [x, y, z] := by
  match vs, h with
  | [v1, v2, v3], ⟨h1, h2, h3, _⟩ =>
    have e1 : v1 = x := h1
    have e2 : v2 = y := h2
    have e3 : v3 = z := h3
    rw [e1, e2, e3]
section
variable {f : Nat} {fn : Func} {e : Array Value → Sem Value}
/-- One value in, one value out. -/
theorem ext1 (hf : P.funcs[f]? = some fn) (hname : (fn.name == "runtime.NumGoroutine") = false) (hb : fn.body.isNone = true) (hn : Extern.findNext fn = none) (he : Extern.find fn = some e) {spec : CSpec}
    (H : ∀ ds p r, spec ds = some (p, r) → p → ∃ x y, ds = [.v x] ∧ r = .one (.v y) ∧ ∀ w, (e #[x]).run P w = .ok y w) : Sound P f .ext spec := by
  intro ds p r hs hp w vs hr
  obtain ⟨x, y, rfl, rfl, h⟩ := H ds p r hs hp
  obtain rfl := hr.v1
  refine ⟨y, ?_, rfl, trivial⟩
  rw [run_callFunc_extern hf hname hb hn he]
  have := h w
  simp only [List.toArray] at this ⊢
  simp [this]
theorem ext3 (hf : P.funcs[f]? = some fn) (hname : (fn.name == "runtime.NumGoroutine") = false) (hb : fn.body.isNone = true) (hn : Extern.findNext fn = none) (he : Extern.find fn = some e) {spec : CSpec}
    (H : ∀ ds p r, spec ds = some (p, r) → p → ∃ x y z u v, ds = [.v x, .v y, .v z] ∧ r = .many [.v u, .v v] ∧ ∀ w, (e #[x, y, z]).run P w = .ok (.tuple #[u, v]) w) : Sound P f .ext spec := by
  intro ds p r hs hp w vs hr
  obtain ⟨x, y, z, u, v, rfl, rfl, h⟩ := H ds p r hs hp
  obtain rfl := hr.v3
  refine ⟨.tuple #[u, v], ?_, ⟨[u, v], rfl, ⟨rfl, rfl, trivial⟩, by simp [freshBs]⟩, fun r hr => by
    simp only [List.mem_cons, List.not_mem_nil, or_false] at hr
    rcases hr with rfl | rfl
    · exact ⟨u, rfl⟩
    · exact ⟨v, rfl⟩⟩
  rw [run_callFunc_extern hf hname hb hn he]
  have := h w
  simp [this]
end
def sub64Entry : Array Value → Sem Value := fun args => do
  let (x, y, b) ← Extern.MathBitsCarry.three "Sub64" args
  pure (Extern.MathBitsCarry.pair ((x + Extern.MathBitsCarry.m64 - y - b) % Extern.MathBitsCarry.m64) (if x < y + b then 1 else 0))
theorem run_sub64 {P : Program} (x y c : Int) (hx : 0 ≤ x) (hx1 : x < 18446744073709551616) (hy : 0 ≤ y) (hy1 : y < 18446744073709551616) (hc0 : 0 ≤ c) (hc : c ≤ 1) (w : World) :
    (sub64Entry #[.int .u64 x, .int .u64 y, .int .u64 c]).run P w =
      .ok (.tuple #[.int .u64 ((x - y - c) % 18446744073709551616), .int .u64 (if x < y + c then 1 else 0)]) w := by
  have key : ∀ k : Nat, k ≤ 1 → (sub64Entry #[.int .u64 x, .int .u64 y, .int .u64 (k : Int)]).run P w =
      .ok (Extern.MathBitsCarry.pair ((x.toNat + Extern.MathBitsCarry.m64 - y.toNat - k) % Extern.MathBitsCarry.m64) (if x.toNat < y.toNat + k then 1 else 0)) w := by
    intro k hk
    have : k = 0 ∨ k = 1 := by omega
    rcases this with rfl | rfl <;> rfl
  obtain ⟨k, rfl⟩ := Int.eq_ofNat_of_zero_le hc0
  rw [key k (by omega)]
  obtain ⟨X, rfl⟩ := Int.eq_ofNat_of_zero_le hx
  obtain ⟨Y, rfl⟩ := Int.eq_ofNat_of_zero_le hy
  simp only [Extern.MathBitsCarry.pair, Extern.MathBitsCarry.m64, Int.toNat_natCast]
  have h1 : Int.ofNat ((X + 2 ^ 64 - Y - k) % 2 ^ 64) = ((X : Int) - Y - k) % 18446744073709551616 := by
    have : ((X + 2 ^ 64 - Y - k : Nat) : Int) = X - Y - k + 18446744073709551616 := by omega
    show ((((X + 2 ^ 64 - Y - k) % 2 ^ 64 : Nat)) : Int) = _
    rw [Int.natCast_emod, this]
    show ((X : Int) - Y - k + 18446744073709551616) % 18446744073709551616 = _
    omega
  have h2 : Int.ofNat (if X < Y + k then 1 else 0) = if (X : Int) < Y + k then 1 else 0 := by
    by_cases h : X < Y + k
    · rw [if_pos h, if_pos (by omega)]; rfl
    · rw [if_neg h, if_neg (by omega)]; rfl
  rw [h1, h2]
section
variable {f : Nat} {fn : Func}
theorem sound_f64bits (hf : P.funcs[f]? = some fn) (hname : (fn.name == "runtime.NumGoroutine") = false) (hb : fn.body.isNone = true) (hn : Extern.findNext fn = none) (he : Extern.find fn = some Extern.MathFloatBits.float64bits) : Sound P f .ext sF64bits :=
  ext1 hf hname hb hn he fun ds p r hs hp => by
    unfold sF64bits at hs
    split at hs
    · cases hs; exact ⟨_, _, rfl, rfl, fun w => rfl⟩
    · cases hs
theorem sound_f64from (hf : P.funcs[f]? = some fn) (hname : (fn.name == "runtime.NumGoroutine") = false) (hb : fn.body.isNone = true) (hn : Extern.findNext fn = none) (he : Extern.find fn = some Extern.MathFloatBits.float64frombits) : Sound P f .ext sF64from :=
  ext1 hf hname hb hn he fun ds p r hs hp => by
    unfold sF64from at hs
    split at hs
    · cases hs; exact ⟨_, _, rfl, rfl, fun w => rfl⟩
    · cases hs
theorem sound_f32bits (hf : P.funcs[f]? = some fn) (hname : (fn.name == "runtime.NumGoroutine") = false) (hb : fn.body.isNone = true) (hn : Extern.findNext fn = none) (he : Extern.find fn = some Extern.MathFloatBits.float32bits) : Sound P f .ext sF32bits :=
  ext1 hf hname hb hn he fun ds p r hs hp => by
    unfold sF32bits at hs
    split at hs
    · cases hs; exact ⟨_, _, rfl, rfl, fun w => rfl⟩
    · cases hs
theorem sound_f32from (hf : P.funcs[f]? = some fn) (hname : (fn.name == "runtime.NumGoroutine") = false) (hb : fn.body.isNone = true) (hn : Extern.findNext fn = none) (he : Extern.find fn = some Extern.MathFloatBits.float32frombits) : Sound P f .ext sF32from :=
  ext1 hf hname hb hn he fun ds p r hs hp => by
    unfold sF32from at hs
    split at hs
    · cases hs; exact ⟨_, _, rfl, rfl, fun w => rfl⟩
    · cases hs
theorem sound_add64 (hf : P.funcs[f]? = some fn) (hname : (fn.name == "runtime.NumGoroutine") = false) (hb : fn.body.isNone = true) (hn : Extern.findNext fn = none) (he : Extern.find fn = some add64Entry) : Sound P f .ext sAdd64 :=
  ext3 hf hname hb hn he fun ds p r hs hp => by
    unfold sAdd64 at hs
    split at hs
    · cases hs
      obtain ⟨h1, h2, h3, h4⟩ := hp
      exact ⟨_, _, _, _, _, rfl, rfl, fun w => run_add64 _ _ _ h1 h2 h3 h4 w⟩
    · cases hs
theorem sound_sub64 (hf : P.funcs[f]? = some fn) (hname : (fn.name == "runtime.NumGoroutine") = false) (hb : fn.body.isNone = true) (hn : Extern.findNext fn = none) (he : Extern.find fn = some sub64Entry) : Sound P f .ext sSub64 :=
  ext3 hf hname hb hn he fun ds p r hs hp => by
    unfold sSub64 at hs
    split at hs
    · cases hs
      obtain ⟨h1, h2, h3, h4, h5, h6⟩ := hp
      exact ⟨_, _, _, _, _, rfl, rfl, fun w => run_sub64 _ _ _ h1 h2 h3 h4 h5 h6 w⟩
    · cases hs
end
theorem sound_weaken {f : Nat} {fk : Fk} {spec spec' : CSpec} (h : Sound P f fk spec) (hs : ∀ ds p r, spec' ds = some (p, r) → p → ∃ q, spec ds = some (q, r) ∧ q) : Sound P f fk spec' := by
  cases fk with
  | body =>
    obtain ⟨fn, h1, h2, h3, h4⟩ := h
    refine ⟨fn, h1, h2, h3, fun ds p r h5 h6 => ?_⟩
    obtain ⟨q, h7, h8⟩ := hs ds p r h5 h6
    exact h4 ds q r h7 h8
  | ext =>
    intro ds p r h5 h6
    obtain ⟨q, h7, h8⟩ := hs ds p r h5 h6
    exact h ds q r h7 h8
theorem sound_add64B {f : Nat} (h : Sound P f .ext sAdd64) : Sound P f .ext sAdd64B := sound_weaken h fun ds p r hs hp => by
  unfold sAdd64B at hs
  split at hs
  · split at hs
    · rename_i hc; cases hs; exact ⟨_, rfl, hc⟩
    · cases hs
  · cases hs
theorem sound_sub64B {f : Nat} (h : Sound P f .ext sSub64) : Sound P f .ext sSub64B := sound_weaken h fun ds p r hs hp => by
  unfold sSub64B at hs
  split at hs
  · split at hs
    · rename_i hc; cases hs; exact ⟨_, rfl, hc⟩
    · cases hs
  · cases hs
theorem sF64bits_free {ds : List DV} {p : Prop} {r : Res} (h : sF64bits ds = some (p, r)) : p := by
  unfold sF64bits at h
  split at h <;> cases h
  trivial
theorem sF64from_free {ds : List DV} {p : Prop} {r : Res} (h : sF64from ds = some (p, r)) : p := by
  unfold sF64from at h
  split at h <;> cases h
  trivial
theorem sF32bits_free {ds : List DV} {p : Prop} {r : Res} (h : sF32bits ds = some (p, r)) : p := by
  unfold sF32bits at h
  split at h <;> cases h
  trivial
theorem sF32from_free {ds : List DV} {p : Prop} {r : Res} (h : sF32from ds = some (p, r)) : p := by
  unfold sF32from at h
  split at h <;> cases h
  trivial
theorem sAdd64B_free {ds : List DV} {p : Prop} {r : Res} (h : sAdd64B ds = some (p, r)) : p := by
  unfold sAdd64B at h
  split at h
  · split at h <;> cases h
    trivial
  · cases h
theorem sSub64B_free {ds : List DV} {p : Prop} {r : Res} (h : sSub64B ds = some (p, r)) : p := by
  unfold sSub64B at h
  split at h
  · split at h <;> cases h
    trivial
  · cases h
end Go.AM
set_option maxRecDepth 20000
namespace Go.Proofs.AMT
open Go.AM
open Go.RowKit (Below)
def sClone : CSpec := fun ds => match ds with
  | [.sl .u64 l] => some (l.length ≤ 100000000, .one (.fresh .u64 l))
  | [.v (.slice none 0 0)] => some (True, .one (.fresh .u64 []))
  | _ => none
def sCloneB : CSpec := fun ds => match ds with
  | [.sl .u64 l] => if l.length ≤ 100000000 then some (True, .one (.fresh .u64 l)) else none
  | [.v (.slice none 0 0)] => some (True, .one (.fresh .u64 []))
  | _ => none
theorem wpList_app_run {P : Program} {w w' : World} {ops : Array Oper} {rest : List Oper} {o : Oper} {a : Act} {Q : Exit → Act → World → Prop} (hgd : o.guard = none) (x y : Operand) (t : TypeId)
    (ho : o.op = .call { callee := .builtin .append, args := #[x, y], argTypes := #[t, t] }) {v : Value}
    (h : (Builtin.append_ #[t, t] o.type #[a.eval x, a.eval y]).run P w = .ok v w') (h2 : wpList P ops Q rest (a.put o.dst v) w') : wpList P ops Q (o :: rest) a w := by
  refine wpList_plain hgd fun K hK => ?_
  unfold Oper.wp execOp
  simp only [ho, resolve, invoke, builtin, Sem.run_bind, Sem.run_pure, Result.andThen_ok, List.map_toArray, List.map_cons, List.map_nil, h]
  exact hK _ _ h2
theorem clone_nil (w : World) (n c : Nat) : Calls Tryz.prog 63 #[.slice none n c] w fun e w' => e = .returned (.slice none 0 0) ∧ w' = w := by
  have q42 : ∀ (w : World) (a : Option Addr) (n c n' c' : Nat), (binOp .eql 40 (.slice a n c) (.slice none n' c')).run Tryz.prog w = .ok (.bool a.isNone) w := fun w a n c n' c' => Lib.run_eql_slice_nil w _ _ a n c n' c' Tryz.underlying40
  go_enter Tryz.func63, Tryz.ntmps63
  go_wp2
  go_ret
  exact ⟨rfl, rfl⟩
theorem clone_some (w : World) (ad : Addr) (n c : Nat) {v : Value} {w' : World} (hrun : (Builtin.append_ #[40, 40] 40 #[.slice (some ⟨w.heap.size, 0, none⟩) 0 0, .slice (some ad) n c]).run Tryz.prog (w.alloc (Obj.cells #[] 22)) = .ok v w') :
    Calls Tryz.prog 63 #[.slice (some ad) n c] w fun e w2 => e = .returned v ∧ w2 = w' := by
  have q42 : ∀ (w : World) (a : Option Addr) (n c n' c' : Nat), (binOp .eql 40 (.slice a n c) (.slice none n' c')).run Tryz.prog w = .ok (.bool a.isNone) w := fun w a n c n' c' => Lib.run_eql_slice_nil w _ _ a n c n' c' Tryz.underlying40
  go_enter Tryz.func63, Tryz.ntmps63
  go_wp2_with (at_builtin; refine wpList_app_run rfl _ _ 40 rfl hrun ?_)
  go_ret
  exact ⟨rfl, rfl⟩
theorem clone_sound : Sound Tryz.prog 63 .body sClone := by
  refine ⟨Tryz.f63, Tryz.func63, by kernel_rfl, by kernel_rfl, fun ds p r hs hp w vs _ hrep => ?_⟩
  have hi : Tryz.prog.info? 22 = some Tryz.t22 := by kernel_rfl
  have nilCase : ∀ (l : List Int) (n c : Nat), l = [] → vs = [.slice none n c] → Calls Tryz.prog 63 vs.toArray w (fun e w' => ∃ v, e = .returned v ∧ Below w.heap.size w w' ∧ RepRes w w' vs (.one (.fresh .u64 l)) v) := by
    rintro l n c rfl rfl
    refine (clone_nil w n c).mono fun e w' ⟨he, hw⟩ => ?_
    subst hw
    exact ⟨_, he, Below.refl _ _, .inl ⟨rfl, rfl⟩⟩
  unfold sClone at hs
  split at hs
  · rename_i l
    cases hs
    match vs, hrep with
    | [v], ⟨⟨A, cap, hv, h1, h2, h3⟩, _⟩ =>
    subst hv
    cases A with
    | none =>
      have hl : l = [] := Classical.byContradiction fun hne => by obtain ⟨ad, h4, _⟩ := h3 hne; cases h4
      subst hl
      exact nilCase [] 0 cap rfl rfl
    | some ad =>
      by_cases hl : l = []
      · subst hl
        refine (clone_some w ad 0 cap (run_app_zero _ 40 40 22 Tryz.t22 Tryz.underlying40 hi (by kernel_rfl) _ _ 0 0 cap (Nat.le_refl _))).mono fun e w' ⟨he, hw⟩ => ?_
        subst hw
        exact ⟨_, he, (Below.refl _ w).alloc (Nat.le_refl _) _, .inr ⟨w.heap.size, 0, #[], 22, [], rfl, Nat.le_refl _, ⟨Nat.zero_le _, Nat.zero_le _⟩, Nat.le_refl _, heap_alloc_new w _, rfl⟩⟩
      · obtain ⟨ad', h4, h5⟩ := h3 hl
        cases h4
        have hpos : 0 < l.length := List.length_pos_iff.2 hl
        have hb : Tryz.t22.bytes = 8 := by kernel_rfl
        have hz1 : Tryz.t22.size = 1 := by kernel_rfl
        have hg : grownCap (w.alloc (Obj.cells #[] 22)) l.length 0 22 ≤ maxLen := grownCap_le_maxLen _ _ _ _ (by simp only [maxLen]; omega)
        have hg2 := grownCap_ge (w.alloc (Obj.cells #[] 22)) l.length 0 22
        have hrun := run_append_grow (P := Tryz.prog) (w.alloc (Obj.cells #[] 22)) 40 40 22 Tryz.t22 (.int .u64 0) Tryz.underlying40 hi (by kernel_rfl) ⟨w.heap.size, 0, none⟩ 0 0 [] (by simp) (by intro j v h; simp at h) ad l.length cap (l.map (.int .u64)) (by simp [hz1]) (by
          intro j u hj
          obtain ⟨hj1, hj2⟩ := List.getElem?_eq_some_iff.1 hj
          simp only [List.length_map] at hj1
          rw [Lib.cell?_alloc_some _ (h5 j hj1)]
          simp at hj2
          rw [← hj2, List.getD, List.getElem?_eq_getElem hj1]
          rfl) (by omega) (by omega) (by rw [hb, show 0 + l.length = l.length by omega, nextslicecap_zero hpos]; omega)
        simp only [Nat.zero_add] at hrun
        refine (clone_some w ad l.length cap hrun).mono fun e w' ⟨he, hw⟩ => ?_
        subst hw
        have hlen : (w.alloc (Obj.cells #[] 22)).drew.heap.size = w.heap.size + 1 := by simp
        refine ⟨_, he, ?_, .inr ⟨w.heap.size + 1, grownCap (w.alloc (Obj.cells #[] 22)) l.length 0 22, _, 22, _, by simp, hg2, ⟨hg, ?_⟩, by omega, by rw [← hlen]; exact heap_alloc_new _ _, by simp; rfl⟩⟩
        · exact (((Below.refl _ w).alloc (Nat.le_refl _) _).drew).alloc (by simp) _
        · have hz : (Value.int IntKind.u64 0).cells.size = 1 := rfl
          simp [size_zc, hz]
          omega
  · cases hs
    match vs, hrep with
    | [v], ⟨hv, _⟩ => exact nilCase [] 0 0 rfl (by rw [show v = .slice none 0 0 from hv])
  · cases hs
theorem clone_soundB : Sound Tryz.prog 63 .body sCloneB := sound_weaken clone_sound fun ds p r h1 h2 => by
  unfold sCloneB at h1
  split at h1
  · split at h1
    · rename_i h; cases h1; exact ⟨_, rfl, h⟩
    · cases h1
  · cases h1; exact ⟨True, rfl, trivial⟩
  · cases h1
theorem sCloneB_free {ds : List DV} {p : Prop} {r : Res} (h : sCloneB ds = some (p, r)) : p := by
  unfold sCloneB at h
  split at h
  · split at h
    · cases h; trivial
    · cases h
  · cases h; trivial
  · cases h
end Go.Proofs.AMT
set_option maxRecDepth 20000
namespace Go.Proofs.AMT
open Go.AM
theorem ext_59 : Sound Tryz.prog 59 .ext sSub64 := sound_sub64 Tryz.func59 (by kernel_rfl) (by kernel_rfl) (by kernel_rfl) (by kernel_rfl)
theorem ext_56 : Sound Tryz.prog 56 .ext sAdd64 := sound_add64 Tryz.func56 (by kernel_rfl) (by kernel_rfl) (by kernel_rfl) (by kernel_rfl)
def extB : Gam := [(59, .ext, sSub64B), (56, .ext, sAdd64B), (63, .body, sCloneB)]
theorem extB_ok : GamOk Tryz.prog extB := by
  intro f fk spec h
  have h := lk_mem h
  simp only [extB, List.mem_cons, Prod.mk.injEq, List.not_mem_nil, or_false] at h
  rcases h with ⟨rfl, rfl, rfl⟩ | ⟨rfl, rfl, rfl⟩ | ⟨rfl, rfl, rfl⟩
  · exact sound_sub64B ext_59
  · exact sound_add64B ext_56
  · exact clone_soundB
theorem extB_free : Free extB := by
  intro f fk spec ds p r h hs
  have h := lk_mem h
  simp only [extB, List.mem_cons, Prod.mk.injEq, List.not_mem_nil, or_false] at h
  rcases h with ⟨rfl, rfl, rfl⟩ | ⟨rfl, rfl, rfl⟩ | ⟨rfl, rfl, rfl⟩
  · exact sSub64B_free hs
  · exact sAdd64B_free hs
  · exact sCloneB_free hs
noncomputable def bodies : Bodies := [(40, Tryz.f40), (60, Tryz.f60), (80, Tryz.f80), (81, Tryz.f81), (29, Tryz.f29)]
theorem bodies_ok : BodiesOk Tryz.prog bodies := by
  intro p h
  simp only [bodies, List.mem_cons, List.not_mem_nil, or_false] at h
  rcases h with rfl | rfl | rfl | rfl | rfl
  · exact ⟨Tryz.func40, by kernel_rfl, dstsB_ok (by kernel_rfl)⟩
  · exact ⟨Tryz.func60, by kernel_rfl, dstsB_ok (by kernel_rfl)⟩
  · exact ⟨Tryz.func80, by kernel_rfl, dstsB_ok (by kernel_rfl)⟩
  · exact ⟨Tryz.func81, by kernel_rfl, dstsB_ok (by kernel_rfl)⟩
  · exact ⟨Tryz.func29, by kernel_rfl, dstsB_ok (by kernel_rfl)⟩
theorem bodies_some : ∀ p ∈ bodies, p.2.body.isSome = true := by
  intro p h
  simp only [bodies, List.mem_cons, List.not_mem_nil, or_false] at h
  rcases h with rfl | rfl | rfl | rfl | rfl <;> rfl
end Go.Proofs.AMT
namespace Go.AM.LN
/-- The number that a list of words is. -/
def val : List Int → Nat
  | [] => 0
  | x :: r => x.toNat + 18446744073709551616 * val r
def lim (a : List Int) : Prop := ∀ x ∈ a, 0 ≤ x ∧ x < 18446744073709551616
/-- Words up to the highest one that isn't 0. -/
def sz : List Int → Nat
  | [] => 0
  | x :: r => if sz r = 0 then (if x = 0 then 0 else 1) else sz r + 1
def limbsF : Nat → Nat → List Int
  | 0, _ => []
  | k + 1, n => if n = 0 then [] else ((n % 18446744073709551616 : Nat) : Int) :: limbsF k (n / 18446744073709551616)
def limbs (n : Nat) : List Int := limbsF n n
def blen (n : Nat) : Nat := if n = 0 then 0 else n.log2 + 1

theorem limbsF_eq : ∀ (k n : Nat), n ≤ k → limbsF k n = limbs n := by
  have key : ∀ (k j n : Nat), n ≤ k → n ≤ j → limbsF k n = limbsF j n := by
    intro k
    induction k with
    | zero => intro j n h _; have : n = 0 := by omega
              subst this; cases j <;> simp [limbsF]
    | succ k ih =>
      intro j n h hj
      cases j with
      | zero => have : n = 0 := by omega
                subst this; simp [limbsF]
      | succ j =>
        simp only [limbsF]
        split
        · rfl
        · rw [ih j _ (by omega) (by omega)]
  intro k n h
  exact key k n n h (Nat.le_refl _)
theorem limbs_zero : limbs 0 = [] := rfl
theorem limbs_pos {n : Nat} (h : n ≠ 0) : limbs n = ((n % 18446744073709551616 : Nat) : Int) :: limbs (n / 18446744073709551616) := by
  obtain ⟨m, rfl⟩ : ∃ m, n = m + 1 := ⟨n - 1, by omega⟩
  show limbsF (m + 1) (m + 1) = _
  simp only [limbsF, h, if_false]
  rw [limbsF_eq _ _ (by omega)]
theorem val_limbs : ∀ n : Nat, val (limbs n) = n := by
  intro n
  induction n using Nat.strongRecOn with
  | _ n ih =>
    by_cases h : n = 0
    · subst h; rfl
    · rw [limbs_pos h, val, ih _ (by omega)]
      omega
theorem lim_limbs : ∀ n : Nat, lim (limbs n) := by
  intro n
  induction n using Nat.strongRecOn with
  | _ n ih =>
    by_cases h : n = 0
    · subst h; intro x hx; cases hx
    · rw [limbs_pos h]
      intro x hx
      rcases List.mem_cons.1 hx with rfl | hx
      · omega
      · exact ih _ (by omega) x hx
theorem lim_nil : lim [] := fun x hx => by cases hx
theorem lim_cons {x : Int} {r : List Int} : lim (x :: r) ↔ (0 ≤ x ∧ x < 18446744073709551616) ∧ lim r := by
  simp [lim]
theorem lim_app {a b : List Int} : lim (a ++ b) ↔ lim a ∧ lim b := by
  simp only [lim, List.mem_append]
  exact ⟨fun h => ⟨fun x hx => h x (.inl hx), fun x hx => h x (.inr hx)⟩, fun h x hx => hx.elim (h.1 x) (h.2 x)⟩
theorem lim_take {a : List Int} (h : lim a) (n : Nat) : lim (a.take n) := fun x hx => h x (List.mem_of_mem_take hx)
theorem lim_drop {a : List Int} (h : lim a) (n : Nat) : lim (a.drop n) := fun x hx => h x (List.mem_of_mem_drop hx)
theorem lim_rep (n : Nat) : lim (List.replicate n 0) := fun x hx => by
  have := List.eq_of_mem_replicate hx; omega
theorem lim_get {a : List Int} (h : lim a) {i : Nat} : 0 ≤ a.getD i 0 ∧ a.getD i 0 < 18446744073709551616 := by
  by_cases hi : i < a.length
  · have : a.getD i 0 = a[i] := by simp [List.getD, List.getElem?_eq_getElem hi]
    rw [this]; exact h _ (List.getElem_mem hi)
  · have : a.getD i 0 = 0 := by simp [List.getD, List.getElem?_eq_none (by omega : a.length ≤ i)]
    rw [this]; omega
theorem lim_set {a : List Int} (h : lim a) {x : Int} (hx : 0 ≤ x ∧ x < 18446744073709551616) (i : Nat) : lim (a.set i x) := by
  intro y hy
  rcases List.mem_or_eq_of_mem_set hy with h1 | rfl
  · exact h y h1
  · exact hx
theorem p64 (n : Nat) : (2:Nat) ^ (64 * (n + 1)) = 18446744073709551616 * 2 ^ (64 * n) := by
  rw [show 64 * (n + 1) = 64 + 64 * n by omega, Nat.pow_add]
theorem val_app : ∀ (a b : List Int), val (a ++ b) = val a + 2 ^ (64 * a.length) * val b
  | [], b => by simp [val]
  | x :: r, b => by
    simp only [List.cons_append, val, List.length_cons, val_app r b, p64]
    rw [Nat.mul_add, Nat.mul_assoc]
    omega
theorem val_lt : ∀ {a : List Int}, lim a → val a < 2 ^ (64 * a.length)
  | [], _ => by simp [val]
  | x :: r, h => by
    rw [lim_cons] at h
    have := val_lt h.2
    simp only [val, List.length_cons, p64]
    omega
theorem val_rep : ∀ n : Nat, val (List.replicate n 0) = 0
  | 0 => rfl
  | n + 1 => by simp [List.replicate_succ, val, val_rep n]
theorem sz_le : ∀ a : List Int, sz a ≤ a.length
  | [] => Nat.le_refl _
  | x :: r => by
    have := sz_le r
    simp only [sz, List.length_cons]
    split
    · split <;> omega
    · omega
theorem sz_zero : ∀ {a : List Int}, lim a → (sz a = 0 ↔ val a = 0)
  | [], _ => by simp [sz, val]
  | x :: r, h => by
    rw [lim_cons] at h
    have := sz_zero h.2
    simp only [sz, val]
    split
    · split <;> omega
    · omega
theorem take_sz : ∀ {a : List Int}, lim a → a.take (sz a) = limbs (val a)
  | [], _ => rfl
  | x :: r, h => by
    rw [lim_cons] at h
    have h1 := sz_zero h.2
    have h2 := take_sz h.2
    simp only [sz, val]
    split
    · rename_i h0
      have hv := h1.1 h0
      rw [hv]
      split
      · rename_i hx; subst hx; rfl
      · rename_i hx
        rw [limbs_pos (by omega)]
        have e1 : (x.toNat + 18446744073709551616 * 0) / 18446744073709551616 = 0 := by omega
        rw [e1, limbs_zero]
        simp
        omega
    · rename_i h0
      rw [limbs_pos (by omega)]
      have e1 : (x.toNat + 18446744073709551616 * val r) / 18446744073709551616 = val r := by omega
      rw [e1, List.take_succ_cons, h2]
      congr 1
      omega
theorem sz_limbs : ∀ n : Nat, sz (limbs n) = (limbs n).length := by
  intro n
  induction n using Nat.strongRecOn with
  | _ n ih =>
    by_cases h : n = 0
    · subst h; rfl
    · rw [limbs_pos h]
      have := ih (n / 18446744073709551616) (by omega)
      have h1 := sz_zero (lim_limbs (n / 18446744073709551616))
      rw [val_limbs] at h1
      simp only [sz, List.length_cons]
      split
      · rename_i h0
        have := h1.1 h0
        split
        · omega
        · rw [this, limbs_zero]; rfl
      · omega
theorem len_limbs_sz {a : List Int} (h : lim a) : (limbs (val a)).length = sz a := by
  rw [← take_sz h, List.length_take]; have := sz_le a; omega
theorem limbs_val {a : List Int} (h : lim a) (hs : sz a = a.length) : limbs (val a) = a := by
  rw [← take_sz h, hs, List.take_length]
theorem limbs_of_lt {n : Nat} (h0 : n ≠ 0) (h : n < 18446744073709551616) : limbs n = [(n : Int)] := by
  rw [limbs_pos h0, Nat.mod_eq_of_lt h, Nat.div_eq_of_lt h, limbs_zero]
theorem sz_eq {a : List Int} (n : Nat) (hn : n ≤ a.length) (h0 : ∀ i, n ≤ i → a.getD i 0 = 0) (h1 : n = 0 ∨ a.getD (n - 1) 0 ≠ 0) : sz a = n := by
  induction a generalizing n with
  | nil => simp at hn; simp [sz, hn]
  | cons x r ih =>
    cases n with
    | zero =>
      have := ih 0 (Nat.zero_le _) (fun i _ => by simpa using h0 (i + 1) (by omega)) (.inl rfl)
      have hx := h0 0 (by omega)
      simp at hx
      simp [sz, this, hx]
    | succ n =>
      have h2 : n = 0 ∨ r.getD (n - 1) 0 ≠ 0 := by
        cases n with
        | zero => exact .inl rfl
        | succ n => right; rcases h1 with h1 | h1; omega
                    simpa using h1
      have := ih n (by simpa using hn) (fun i hi => by simpa using h0 (i + 1) (by omega)) h2
      simp only [sz, this]
      split
      · rename_i hz; subst hz
        rcases h1 with h1 | h1
        · omega
        · simp at h1; simp [h1]
      · rfl
theorem sz_getD {a : List Int} : ∀ i, sz a ≤ i → a.getD i 0 = 0 := by
  induction a with
  | nil => intro i _; simp
  | cons x r ih =>
    intro i h
    simp only [sz] at h
    cases i with
    | zero =>
      split at h
      · split at h
        · rename_i hx; simp [hx]
        · omega
      · omega
    | succ i =>
      simp only [List.getD_cons_succ]
      apply ih
      split at h
      · omega
      · omega
theorem sz_top {a : List Int} (h : sz a ≠ 0) : a.getD (sz a - 1) 0 ≠ 0 := by
  induction a with
  | nil => simp [sz] at h
  | cons x r ih =>
    simp only [sz] at h ⊢
    split
    · rename_i h0
      rw [if_pos h0] at h
      split
      · rename_i hx; rw [if_pos hx] at h; exact absurd rfl h
      · rename_i hx; simpa using hx
    · rename_i h0
      have := ih h0
      rw [show sz r + 1 - 1 = (sz r - 1) + 1 by omega]
      simpa using this
/-! bits -/
theorem blen_lt {n k : Nat} : blen n ≤ k ↔ n < 2 ^ k := by
  unfold blen
  split
  · rename_i h; subst h; exact ⟨fun _ => Nat.two_pow_pos k, fun _ => Nat.zero_le _⟩
  · rename_i h
    rw [← Nat.log2_lt h]
    omega
theorem blen_le {n k : Nat} : k < blen n ↔ 2 ^ k ≤ n := by
  have := @blen_lt n k
  omega
theorem blen_zero {n : Nat} : blen n = 0 ↔ n = 0 := by
  have := @blen_lt n 0
  omega
theorem blen_eq {n k : Nat} (h1 : 2 ^ k ≤ n) (h2 : n < 2 ^ (k + 1)) : blen n = k + 1 := by
  have a := blen_le.2 h1
  have b := blen_lt.2 h2
  omega
theorem blen_mul {n : Nat} (h : n ≠ 0) (k : Nat) : blen (n * 2 ^ k) = blen n + k := by
  obtain ⟨j, hj⟩ : ∃ j, blen n = j + 1 := ⟨blen n - 1, by have := @blen_zero n; omega⟩
  have h1 : 2 ^ j ≤ n := blen_le.1 (by omega)
  have h2 : n < 2 ^ (j + 1) := blen_lt.1 (by omega)
  rw [blen_eq (k := j + k), hj]
  · omega
  · rw [Nat.pow_add]; exact Nat.mul_le_mul_right _ h1
  · rw [show j + k + 1 = (j + 1) + k by omega, Nat.pow_add]
    exact Nat.mul_lt_mul_of_pos_right h2 (Nat.two_pow_pos k)
theorem blen_mono {m n : Nat} (h : m ≤ n) : blen m ≤ blen n := by
  rw [blen_lt]; exact Nat.lt_of_le_of_lt h (blen_lt.1 (Nat.le_refl _))
theorem len_limbs (n : Nat) : (limbs n).length = (blen n + 63) / 64 := by
  induction n using Nat.strongRecOn with
  | _ n ih =>
    by_cases h : n = 0
    · subst h; rfl
    · rw [limbs_pos h, List.length_cons, ih _ (by omega)]
      by_cases h2 : n / 18446744073709551616 = 0
      · have h3 : blen n ≤ 64 := blen_lt.2 (by omega)
        have h4 : blen n ≠ 0 := fun hh => h (blen_zero.1 hh)
        rw [h2]
        have : blen 0 = 0 := rfl
        omega
      · have : blen n = blen (n / 18446744073709551616) + 64 := by
          obtain ⟨j, hj⟩ : ∃ j, blen (n / 18446744073709551616) = j + 1 := ⟨blen (n / 18446744073709551616) - 1, by have := @blen_zero (n / 18446744073709551616); omega⟩
          have h1 : 2 ^ j ≤ n / 18446744073709551616 := blen_le.1 (by omega)
          have h3 : n / 18446744073709551616 < 2 ^ (j + 1) := blen_lt.1 (by omega)
          rw [hj, show j + 1 + 64 = (j + 64) + 1 by omega]
          apply blen_eq
          · rw [Nat.pow_add]; have := Nat.div_add_mod n 18446744073709551616
            have e : (2:Nat) ^ 64 = 18446744073709551616 := rfl
            rw [e]; omega
          · rw [show j + 64 + 1 = (j + 1) + 64 by omega, Nat.pow_add]
            have e : (2:Nat) ^ 64 = 18446744073709551616 := rfl
            rw [e]; omega
        omega
theorem val_getD : ∀ (a : List Int) (i : Nat), lim a → val a / 2 ^ (64 * i) % 18446744073709551616 = (a.getD i 0).toNat
  | [], i, _ => by simp [val]
  | x :: r, i, h => by
    rw [lim_cons] at h
    cases i with
    | zero => simp [val]; omega
    | succ i =>
      simp only [val, List.getD_cons_succ, p64]
      rw [← Nat.div_div_eq_div_mul, show (x.toNat + 18446744073709551616 * val r) / 18446744073709551616 = val r by omega]
      exact val_getD r i h.2
theorem val_take : ∀ (a : List Int) (i : Nat), lim a → val (a.take i) = val a % 2 ^ (64 * i)
  | a, 0, _ => by simp [val, Nat.mod_one]
  | [], i + 1, _ => by simp [val]
  | x :: r, i + 1, h => by
    rw [lim_cons] at h
    simp only [List.take_succ_cons, val, p64, val_take r i h.2]
    rw [Nat.mod_mul, show (x.toNat + 18446744073709551616 * val r) % 18446744073709551616 = x.toNat by omega, show (x.toNat + 18446744073709551616 * val r) / 18446744073709551616 = val r by omega]
theorem val_drop : ∀ (a : List Int) (i : Nat), lim a → val (a.drop i) = val a / 2 ^ (64 * i)
  | a, 0, _ => by simp
  | [], i + 1, _ => by simp [val]
  | x :: r, i + 1, h => by
    rw [lim_cons] at h
    simp only [List.drop_succ_cons, val, p64, val_drop r i h.2]
    rw [← Nat.div_div_eq_div_mul, show (x.toNat + 18446744073709551616 * val r) / 18446744073709551616 = val r by omega]
theorem val_snoc (a : List Int) (x : Int) : val (a ++ [x]) = val a + 2 ^ (64 * a.length) * x.toNat := by
  rw [val_app]; simp [val]
theorem take_succ {a : List Int} {i : Nat} (h : i < a.length) : a.take (i + 1) = a.take i ++ [a.getD i 0] := by
  rw [List.take_succ, List.getD, List.getElem?_eq_getElem h]; simp
theorem val_take_succ {a : List Int} {i : Nat} (h : i < a.length) : val (a.take (i + 1)) = val (a.take i) + 2 ^ (64 * i) * (a.getD i 0).toNat := by
  rw [take_succ h, val_snoc, List.length_take]
  congr 4
  omega
theorem val_inj {a b : List Int} (ha : lim a) (hb : lim b) (hl : a.length = b.length) (h : val a = val b) : a = b := by
  induction a generalizing b with
  | nil => cases b with
    | nil => rfl
    | cons _ _ => simp at hl
  | cons x r ih => cases b with
    | nil => simp at hl
    | cons y s =>
      rw [lim_cons] at ha hb
      simp only [val] at h
      have e : val r = val s := by omega
      rw [ih ha.2 hb.2 (by simpa using hl) e]
      congr 1
      omega
end Go.AM.LN
namespace Go.AM
variable [Lay]
variable {ty : Ty} {Γ : Gam}
/-- Many ways come together here. -/
theorem awp_seq_j {Q : Post} {env : List (Nat × AV)} {mem : List (Nat × Ct × Bool)} {a b : Code} {ι : Type} (E : ι → List (Nat × AV)) (M : ι → List (Nat × Ct × Bool)) (hb : ∀ j, awp ty Γ b Q (E j) (M j))
    (ha : ∀ K : List (Nat × AV) → List (Nat × Ct × Bool) → Prop, (∀ env mem j, Ent env mem (E j) (M j) → K env mem) → awp ty Γ a (thenP K Q) env mem) : awp ty Γ (.seq a b) Q env mem := by
  refine awp_mono (c := a) (Q' := thenP (awp ty Γ b Q) Q) (fun x e m hx => ?_) (ha (fun e m => ∃ j, Ent e m (E j) (M j)) fun e m j h => ⟨j, h⟩)
  cases x with
  | normal =>
    obtain ⟨e0, m0, h0, j, h1⟩ := hx
    exact ⟨E j, M j, h0.trans h1, hb j⟩
  | exit j => exact hx
  | ret => exact hx
theorem awp_seq_e {Q : Post} {env : List (Nat × AV)} {mem : List (Nat × Ct × Bool)} {a b : Code} (E : List (Nat × AV)) (M : List (Nat × Ct × Bool)) (hb : awp ty Γ b Q E M)
    (ha : ∀ K : List (Nat × AV) → List (Nat × Ct × Bool) → Prop, (∀ env mem, Ent env mem E M → K env mem) → awp ty Γ a (thenP K Q) env mem) : awp ty Γ (.seq a b) Q env mem :=
  awp_seq_j (ι := Unit) (fun _ => E) (fun _ => M) (fun _ => hb) fun K hK => ha K fun env mem h => hK env mem () h
/-- A loop of at most n rounds, round by round. -/
def unrP (c : Code) (Q : Post) : Nat → Post
  | 0 => fun e env mem => match e with
    | .normal => False
    | e => Q e env mem
  | n + 1 => fun e env mem => match e with
    | .normal => awp ty Γ c (unrP c Q n) env mem
    | e => Q e env mem
theorem awp_unroll {c : Code} {Q : Post} (n : Nat) {env : List (Nat × AV)} {mem : List (Nat × Ct × Bool)} (h : awp ty Γ c (unrP (ty := ty) (Γ := Γ) c Q n) env mem) : awp ty Γ (.loop c) Q env mem := by
  refine ⟨{x : List (Nat × AV) × List (Nat × Ct × Bool) × Nat // awp ty Γ c (unrP (ty := ty) (Γ := Γ) c Q x.2.2) x.1 x.2.1}, fun x => x.1.1, fun x => x.1.2.1, fun x => x.1.2.2, ⟨(env, mem, n), h⟩, fun _ _ _ _ _ hr => hr, fun i => ?_⟩
  obtain ⟨⟨e, m, k⟩, hi⟩ := i
  refine awp_mono (fun x e' m' hx => ?_) hi
  cases k with
  | zero =>
    cases x with
    | normal => exact hx.elim
    | exit j => exact hx
    | ret => exact hx
  | succ k =>
    cases x with
    | normal => exact ⟨⟨(e', m', k), hx⟩, fun _ _ _ _ _ hr => hr, Nat.lt_succ_self k⟩
    | exit j => exact hx
    | ret => exact hx
end Go.AM
namespace Go.AM
variable [Lay]
section
variable {ty : Ty} {Γ : Gam} {env : List (Nat × AV)} {mem : List (Nat × Ct × Bool)} {d : Nat} {tt : TypeId} {pos : String} {after : Array Edge} {g : Option (Nat × Bool)} {k : List (Nat × AV) → List (Nat × Ct × Bool) → Prop}
theorem aOne_move {x : Operand} : aOne ty Γ ⟨some d, .move x, tt, pos, after, g⟩ env mem k = bindO (aStep ty Γ ⟨lk env, lk mem⟩ d (.move x)) fun a m => Chk (freshM (lk mem) d m) (k ((d, a) :: env) (m ++ mem)) := aOne_dst rfl
theorem aOne_assign {x : Operand} : aOne ty Γ ⟨some d, .assign x, tt, pos, after, g⟩ env mem k = bindO (aStep ty Γ ⟨lk env, lk mem⟩ d (.assign x)) fun a m => Chk (freshM (lk mem) d m) (k ((d, a) :: env) (m ++ mem)) := aOne_dst rfl
theorem aOne_pick {x y z : Operand} : aOne ty Γ ⟨some d, .pick x y z, tt, pos, after, g⟩ env mem k = bindO (aStep ty Γ ⟨lk env, lk mem⟩ d (.pick x y z)) fun a m => Chk (freshM (lk mem) d m) (k ((d, a) :: env) (m ++ mem)) := aOne_dst rfl
theorem aOne_alloc {t1 : TypeId} : aOne ty Γ ⟨some d, .alloc t1, tt, pos, after, g⟩ env mem k = bindO (aStep ty Γ ⟨lk env, lk mem⟩ d (.alloc t1)) fun a m => Chk (freshM (lk mem) d m) (k ((d, a) :: env) (m ++ mem)) := aOne_dst rfl
theorem aOne_box {t1 : TypeId} {x : Operand} : aOne ty Γ ⟨some d, .box t1 x, tt, pos, after, g⟩ env mem k = bindO (aStep ty Γ ⟨lk env, lk mem⟩ d (.box t1 x)) fun a m => Chk (freshM (lk mem) d m) (k ((d, a) :: env) (m ++ mem)) := aOne_dst rfl
theorem aOne_build {t1 : TypeId} {x : Array (Nat × Operand)} : aOne ty Γ ⟨some d, .build t1 x, tt, pos, after, g⟩ env mem k = bindO (aStep ty Γ ⟨lk env, lk mem⟩ d (.build t1 x)) fun a m => Chk (freshM (lk mem) d m) (k ((d, a) :: env) (m ++ mem)) := aOne_dst rfl
theorem aOne_buildSlice {t1 : TypeId} {n : Nat} {x : Array (Nat × Operand)} : aOne ty Γ ⟨some d, .buildSlice t1 n x, tt, pos, after, g⟩ env mem k = bindO (aStep ty Γ ⟨lk env, lk mem⟩ d (.buildSlice t1 n x)) fun a m => Chk (freshM (lk mem) d m) (k ((d, a) :: env) (m ++ mem)) := aOne_dst rfl
theorem aOne_load {t1 : TypeId} {x : Operand} : aOne ty Γ ⟨some d, .load t1 x, tt, pos, after, g⟩ env mem k = bindO (aStep ty Γ ⟨lk env, lk mem⟩ d (.load t1 x)) fun a m => Chk (freshM (lk mem) d m) (k ((d, a) :: env) (m ++ mem)) := aOne_dst rfl
theorem aOne_bin {o : BinOp} {t1 u : TypeId} {x y : Operand} : aOne ty Γ ⟨some d, .binOp o t1 x y u, tt, pos, after, g⟩ env mem k = bindO (aStep ty Γ ⟨lk env, lk mem⟩ d (.binOp o t1 x y u)) fun a m => Chk (freshM (lk mem) d m) (k ((d, a) :: env) (m ++ mem)) := aOne_dst rfl
theorem aOne_un {o : UnOp} {t1 : TypeId} {x : Operand} : aOne ty Γ ⟨some d, .unOp o t1 x, tt, pos, after, g⟩ env mem k = bindO (aStep ty Γ ⟨lk env, lk mem⟩ d (.unOp o t1 x)) fun a m => Chk (freshM (lk mem) d m) (k ((d, a) :: env) (m ++ mem)) := aOne_dst rfl
theorem aOne_conv {t1 u : TypeId} {x : Operand} : aOne ty Γ ⟨some d, .convert t1 u x, tt, pos, after, g⟩ env mem k = bindO (aStep ty Γ ⟨lk env, lk mem⟩ d (.convert t1 u x)) fun a m => Chk (freshM (lk mem) d m) (k ((d, a) :: env) (m ++ mem)) := aOne_dst rfl
theorem aOne_make {t1 : TypeId} {x y : Operand} : aOne ty Γ ⟨some d, .makeSlice t1 x y, tt, pos, after, g⟩ env mem k = bindO (aStep ty Γ ⟨lk env, lk mem⟩ d (.makeSlice t1 x y)) fun a m => Chk (freshM (lk mem) d m) (k ((d, a) :: env) (m ++ mem)) := aOne_dst rfl
theorem aOne_slice {t1 : TypeId} {x : Operand} {l h m : Option Operand} : aOne ty Γ ⟨some d, .slice t1 x l h m, tt, pos, after, g⟩ env mem k = bindO (aStep ty Γ ⟨lk env, lk mem⟩ d (.slice t1 x l h m)) fun a m => Chk (freshM (lk mem) d m) (k ((d, a) :: env) (m ++ mem)) := aOne_dst rfl
theorem aOne_fieldAddr {t1 : TypeId} {x : Operand} {f : Nat} : aOne ty Γ ⟨some d, .fieldAddr t1 x f, tt, pos, after, g⟩ env mem k = bindO (aStep ty Γ ⟨lk env, lk mem⟩ d (.fieldAddr t1 x f)) fun a m => Chk (freshM (lk mem) d m) (k ((d, a) :: env) (m ++ mem)) := aOne_dst rfl
theorem aOne_field {t1 : TypeId} {x : Operand} {f : Nat} : aOne ty Γ ⟨some d, .field t1 x f, tt, pos, after, g⟩ env mem k = bindO (aStep ty Γ ⟨lk env, lk mem⟩ d (.field t1 x f)) fun a m => Chk (freshM (lk mem) d m) (k ((d, a) :: env) (m ++ mem)) := aOne_dst rfl
theorem aOne_indexAddr {t1 : TypeId} {x i : Operand} : aOne ty Γ ⟨some d, .indexAddr t1 x i, tt, pos, after, g⟩ env mem k = bindO (aStep ty Γ ⟨lk env, lk mem⟩ d (.indexAddr t1 x i)) fun a m => Chk (freshM (lk mem) d m) (k ((d, a) :: env) (m ++ mem)) := aOne_dst rfl
theorem aOne_index {t1 : TypeId} {x i : Operand} : aOne ty Γ ⟨some d, .index t1 x i, tt, pos, after, g⟩ env mem k = bindO (aStep ty Γ ⟨lk env, lk mem⟩ d (.index t1 x i)) fun a m => Chk (freshM (lk mem) d m) (k ((d, a) :: env) (m ++ mem)) := aOne_dst rfl
theorem aOne_extract {x : Operand} {f : Nat} : aOne ty Γ ⟨some d, .extract x f, tt, pos, after, g⟩ env mem k = bindO (aStep ty Γ ⟨lk env, lk mem⟩ d (.extract x f)) fun a m => Chk (freshM (lk mem) d m) (k ((d, a) :: env) (m ++ mem)) := aOne_dst rfl
theorem aOne_func {v : Operand} {a : Array Operand} {ts : Array TypeId} : aOne ty Γ ⟨some d, .call ⟨.value v, a, ts⟩, tt, pos, after, g⟩ env mem k = bindO (aStep ty Γ ⟨lk env, lk mem⟩ d (.call ⟨.value v, a, ts⟩)) fun a m => Chk (freshM (lk mem) d m) (k ((d, a) :: env) (m ++ mem)) := aOne_dst rfl
theorem aOne_len {a : Array Operand} {ts : Array TypeId} : aOne ty Γ ⟨some d, .call ⟨.builtin .len, a, ts⟩, tt, pos, after, g⟩ env mem k = bindO (aStep ty Γ ⟨lk env, lk mem⟩ d (.call ⟨.builtin .len, a, ts⟩)) fun a m => Chk (freshM (lk mem) d m) (k ((d, a) :: env) (m ++ mem)) := aOne_dst rfl
theorem aOne_max {a : Array Operand} {ts : Array TypeId} : aOne ty Γ ⟨some d, .call ⟨.builtin .max, a, ts⟩, tt, pos, after, g⟩ env mem k = bindO (aStep ty Γ ⟨lk env, lk mem⟩ d (.call ⟨.builtin .max, a, ts⟩)) fun a m => Chk (freshM (lk mem) d m) (k ((d, a) :: env) (m ++ mem)) := aOne_dst rfl
theorem aOne_min {a : Array Operand} {ts : Array TypeId} : aOne ty Γ ⟨some d, .call ⟨.builtin .min, a, ts⟩, tt, pos, after, g⟩ env mem k = bindO (aStep ty Γ ⟨lk env, lk mem⟩ d (.call ⟨.builtin .min, a, ts⟩)) fun a m => Chk (freshM (lk mem) d m) (k ((d, a) :: env) (m ++ mem)) := aOne_dst rfl
end
end Go.AM
namespace Go.AM
theorem ofInt_toNat {k : IntKind} {a : Int} (h0 : 0 ≤ a) (h1 : a < 2 ^ k.bits) : (BitVec.ofInt k.bits a).toNat = a.toNat := by
  rw [BitVec.toNat_ofInt]
  congr 1
  rw [Int.emod_eq_of_lt h0]
  exact_mod_cast h1
theorem wrap_u64 {n : Nat} (h : n < 18446744073709551616) : IntKind.u64.wrap (n : Int) = n := by
  simp only [IntKind.wrap]
  simp [IntKind.bits, IntKind.signed]
  omega
theorem wrap_u32 {n : Nat} (h : n < 4294967296) : IntKind.u32.wrap (n : Int) = n := by
  simp only [IntKind.wrap]
  simp [IntKind.bits, IntKind.signed]
  omega
theorem and_u64 {a b : Int} (ha : 0 ≤ a ∧ a < 18446744073709551616) (hb : 0 ≤ b ∧ b < 18446744073709551616) : bits .and .u64 a b = ((a.toNat &&& b.toNat : Nat) : Int) := by
  simp only [bits]
  rw [BitVec.toNat_and, ofInt_toNat ha.1 (by simpa [IntKind.bits] using ha.2), ofInt_toNat hb.1 (by simpa [IntKind.bits] using hb.2)]
  exact wrap_u64 (Nat.lt_of_le_of_lt Nat.and_le_left (by omega))
theorem or_u64 {a b : Int} (ha : 0 ≤ a ∧ a < 18446744073709551616) (hb : 0 ≤ b ∧ b < 18446744073709551616) : bits .or .u64 a b = ((a.toNat ||| b.toNat : Nat) : Int) := by
  simp only [bits]
  rw [BitVec.toNat_or, ofInt_toNat ha.1 (by simpa [IntKind.bits] using ha.2), ofInt_toNat hb.1 (by simpa [IntKind.bits] using hb.2)]
  exact wrap_u64 (Nat.or_lt_two_pow (n := 64) (by omega) (by omega))
theorem and_u32 {a b : Int} (ha : 0 ≤ a ∧ a < 4294967296) (hb : 0 ≤ b ∧ b < 4294967296) : bits .and .u32 a b = ((a.toNat &&& b.toNat : Nat) : Int) := by
  simp only [bits]
  rw [BitVec.toNat_and, ofInt_toNat ha.1 (by simpa [IntKind.bits] using ha.2), ofInt_toNat hb.1 (by simpa [IntKind.bits] using hb.2)]
  exact wrap_u32 (Nat.lt_of_le_of_lt Nat.and_le_left (by omega))
theorem and_mask {a : Int} (n : Nat) (ha : 0 ≤ a ∧ a < 18446744073709551616) (hn : n ≤ 64) : bits .and .u64 a (2 ^ n - 1 : Int) = a % 2 ^ n := by
  have h1 : (2:Int) ^ n ≤ 2 ^ 64 := by exact_mod_cast Nat.pow_le_pow_right (by omega) hn
  have h2 : (1:Int) ≤ 2 ^ n := by exact_mod_cast Nat.one_le_two_pow
  have h64 : (2:Int) ^ 64 = 18446744073709551616 := by decide
  rw [and_u64 ha ⟨by omega, by omega⟩]
  have e : ((2:Int) ^ n - 1).toNat = 2 ^ n - 1 := by
    have : ((2:Int) ^ n - 1) = ((2 ^ n - 1 : Nat) : Int) := by
      rw [Int.natCast_sub Nat.one_le_two_pow]; simp
    rw [this]; rfl
  rw [e, Nat.and_two_pow_sub_one_eq_mod]
  have h3 : ((a.toNat : Nat) : Int) = a := by omega
  rw [Int.natCast_emod, h3]
  simp
end Go.AM
