/- Part 4 of the proof: own text (AmWD, AmLv, AmLw, AmSS, Tx, LN2, LN3, LN4, FmathbitsLen64, LN5, LN6, LN7, LN8, LN9, LN10, FlimbsLen, LN11, LN12, LN13, LN14, LN15, LN16, LN17). -/
import Derived.Test.YtknejocjkjpfmaaGreatDoorK0
import Derived.Test.YtknejocjkjpfmaaGreatDoorK1
import Derived.Test.YtknejocjkjpfmaaGreatDoorK2
import Derived.Test.YtknejocjkjpfmaaGreatDoorK3
set_option linter.all false
namespace Go.AM
variable [Lay]
section
variable {ty : Ty} {Γ : Gam} {env : List (Nat × AV)} {mem mem0 : List (Nat × Ct × Bool)} {all r : List Oper} {K : List (Nat × AV) → List (Nat × Ct × Bool) → Prop} {rd wr : NNs} {i : Nat} {o : Oper}
theorem awpD_nil : awpD ty Γ all mem0 K i rd wr [] env mem = K env mem := rfl
theorem awpD_cons : awpD ty Γ all mem0 K i rd wr (o :: r) env mem = bindG (aGuard all ⟨lk env, lk mem⟩ o.guard)
      (dOne ty Γ mem0 i o rd wr env mem fun rd wr env mem => awpD ty Γ all mem0 K (i + 1) rd wr r env mem)
      (dOne ty Γ mem0 i o rd wr (gset all o.guard true ++ env) mem fun rd wr env mem => awpD ty Γ all mem0 K (i + 1) rd wr r env mem)
      (awpD ty Γ all mem0 K (i + 1) rd wr r (skipE o.dst (gset all o.guard false ++ env)) mem)
      (awpD ty Γ all mem0 K (i + 1) rd wr r (skipE o.dst env) mem) := rfl
def keysB (mem0 : List (Nat × Ct × Bool)) (env : List (Nat × AV)) (wr : NNs) (o : Oper) : Prop := (keysAt mem0 (lk env) (tmpsOf o.op) && clash wr o (rdKeys (lk env) (tmpsOf o.op))) = true
def keysC (mem0 : List (Nat × Ct × Bool)) (env : List (Nat × AV)) (op : Op) : Prop := keysAt mem0 (lk env) (tmpsOf op) = true
def rdN (env : List (Nat × AV)) (i : Nat) (op : Op) (rd : NNs) : NNs := (rdKeys (lk env) (tmpsOf op)).map (fun x => (i, x)) ++ rd
theorem dOne_dst {d : Nat} {op : Op} {t : TypeId} {pos : String} {after : Array Edge} {g : Option (Nat × Bool)} {k : DK} :
    dOne ty Γ mem0 i ⟨some d, op, t, pos, after, g⟩ rd wr env mem k = Chk (keysB mem0 env wr ⟨some d, op, t, pos, after, g⟩) (bindO (aStep ty Γ ⟨lk env, lk mem⟩ d op) fun a m => Chk (freshM (lk mem) d m ∧ noFz m) (k (rdN env i op rd) wr ((d, a) :: env) (m ++ mem))) := rfl
theorem dOne_store {t t' : TypeId} {x y : Operand} {pos : String} {after : Array Edge} {g : Option (Nat × Bool)} {k : DK} :
    dOne ty Γ mem0 i ⟨none, .store t' x y, t, pos, after, g⟩ rd wr env mem k = Chk (keysB mem0 env wr ⟨none, .store t' x y, t, pos, after, g⟩) (bindS (aStore ty ⟨lk env, lk mem⟩ t' x y) fun key c => Chk (((lk mem0 key).isSome && clashK rd ⟨none, .store t' x y, t, pos, after, g⟩ key) = true) (k (rdN env i (.store t' x y) rd) ((i, key) :: wr) env ((key, c, false) :: mem))) := rfl
theorem awpD_congr {env' : List (Nat × AV)} {mem' : List (Nat × Ct × Bool)} (h : env = env') (h' : mem = mem') : awpD ty Γ all mem0 K i rd wr r env mem = awpD ty Γ all mem0 K i rd wr r env' mem' := by rw [h, h']
theorem dOne_congr {env' : List (Nat × AV)} {mem' : List (Nat × Ct × Bool)} {k : DK} (h : env = env') (h' : mem = mem') : dOne ty Γ mem0 i o rd wr env mem k = dOne ty Γ mem0 i o rd wr env' mem' k := by rw [h, h']
theorem keysB_i {wr : NNs} (h : (keysAt mem0 (lk env) (tmpsOf o.op) && clash wr o (rdKeys (lk env) (tmpsOf o.op))) = true) : keysB mem0 env wr o := h
theorem noFz_nil : noFz [] = True := rfl
theorem noFz_cons {k : Nat} {c : Ct} {fr : Bool} {r : List (Nat × Ct × Bool)} : noFz ((k, c, fr) :: r) = (fr = false ∧ noFz r) := rfl
theorem keysB_congr {env' : List (Nat × AV)} (h : env = env') : keysB mem0 env wr o = keysB mem0 env' wr o := by rw [h]
theorem awp_region_a {Q : Post} {id : Nat} {l : List Oper} (h : ∀ all, all = l → ∀ K : List (Nat × AV) → List (Nat × Ct × Bool) → Prop, (∀ env mem, Q .normal env mem → K env mem) → awpOps ty Γ all K l env mem) : awp ty Γ (.region id l.toArray false) Q env mem := h _ rfl _ fun _ _ h => h
theorem awp_draw_a {Q : Post} {id : Nat} {l : List Oper} (hd : drawOk l = true) (h : ∀ all, all = l → ∀ K : List (Nat × AV) → List (Nat × Ct × Bool) → Prop, (∀ env mem, Q .normal env mem → K env mem) → awpD ty Γ all mem K 0 [] [] l env mem) : awp ty Γ (.region id l.toArray true) Q env mem := ⟨hd, h _ rfl _ fun _ _ h => h⟩
theorem ops_k (h : ∀ X : List (Nat × AV) → List (Nat × Ct × Bool) → Prop, (∀ env mem, awpOps ty Γ all K r env mem → X env mem) → bindG (aGuard all ⟨lk env, lk mem⟩ o.guard) (aOne ty Γ o env mem X) (aOne ty Γ o (gset all o.guard true ++ env) mem X) (X (skipE o.dst (gset all o.guard false ++ env)) mem) (X (skipE o.dst env) mem)) : awpOps ty Γ all K (o :: r) env mem := h _ fun _ _ h => h
theorem opsD_k (h : ∀ X : DK, (∀ rd wr env mem, awpD ty Γ all mem0 K (i + 1) rd wr r env mem → X rd wr env mem) → bindG (aGuard all ⟨lk env, lk mem⟩ o.guard)
      (dOne ty Γ mem0 i o rd wr env mem X)
      (dOne ty Γ mem0 i o rd wr (gset all o.guard true ++ env) mem X)
      (X rd wr (skipE o.dst (gset all o.guard false ++ env)) mem)
      (X rd wr (skipE o.dst env) mem)) : awpD ty Γ all mem0 K i rd wr (o :: r) env mem := h _ fun _ _ _ _ h => h
theorem ops_nil_i (h : K env mem) : awpOps ty Γ all K [] env mem := h
theorem opsD_nil_i (h : K env mem) : awpD ty Γ all mem0 K i rd wr [] env mem := h
theorem retP_ret {vs : List ResultVar} {rs : Res} : retP ty vs rs .ret env mem = resOk ty (lk env) (lk mem) vs rs := rfl
theorem aGuard_none {s : St} : aGuard all s none = .no := rfl
theorem aGuard_some {s : St} {j : Nat} {b : Bool} : aGuard all s (some (j, b)) = match (all[j]?).bind (·.dst) with
    | some sl => match s.e sl with
      | some (.v (.bool c)) => .tt (c == b)
      | some (.v (.tuple _)) => .off
      | _ => .bad
    | none => .bad := rfl
theorem gset_none {t : Bool} : gset all none t = [] := rfl
theorem gset_some {j : Nat} {b t : Bool} : gset all (some (j, b)) t = [(((all[j]?).bind (·.dst)).getD 0, .v (.bool (if t then b else !b)))] := rfl
theorem undef_eq : undef = Value.tuple #[] := rfl
theorem beqT (b : Bool) : (b == true) = b := by cases b <;> rfl
theorem beqF (b : Bool) : (b == false) = !b := by cases b <;> rfl
/-- A drawn region without stores. -/
def nOne (ty : Ty) (Γ : Gam) (mem0 : List (Nat × Ct × Bool)) (o : Oper) (env : List (Nat × AV)) (mem : List (Nat × Ct × Bool)) (k : List (Nat × AV) → List (Nat × Ct × Bool) → Prop) : Prop :=
  match o.dst, o.op with
  | some d, op => Chk (keysAt mem0 (lk env) (tmpsOf op) = true) (bindO (aStep ty Γ ⟨lk env, lk mem⟩ d op) fun a m => Chk (freshM (lk mem) d m ∧ noFz m) (k ((d, a) :: env) (m ++ mem)))
  | none, _ => False
def awpN (ty : Ty) (Γ : Gam) (all : List Oper) (mem0 : List (Nat × Ct × Bool)) (K : List (Nat × AV) → List (Nat × Ct × Bool) → Prop) : List Oper → List (Nat × AV) → List (Nat × Ct × Bool) → Prop
  | [], env, mem => K env mem
  | o :: r, env, mem => bindG (aGuard all ⟨lk env, lk mem⟩ o.guard)
      (nOne ty Γ mem0 o env mem fun env mem => awpN ty Γ all mem0 K r env mem)
      (nOne ty Γ mem0 o (gset all o.guard true ++ env) mem fun env mem => awpN ty Γ all mem0 K r env mem)
      (awpN ty Γ all mem0 K r (skipE o.dst (gset all o.guard false ++ env)) mem)
      (awpN ty Γ all mem0 K r (skipE o.dst env) mem)
theorem nOne_ok {k : List (Nat × AV) → List (Nat × Ct × Bool) → Prop} {k' : DK} (hk : ∀ rd env mem, k env mem → k' rd [] env mem) (h : nOne ty Γ mem0 o env mem k) : dOne ty Γ mem0 i o rd [] env mem k' := by
  unfold nOne at h
  unfold dOne
  split at h
  · rename_i d op hd
    refine ⟨by rw [h.1]; rfl, ?_⟩
    rw [hd]
    refine bindO_mono h.2 (fun a m h2 => ?_)
    exact ⟨h2.1, hk _ _ _ h2.2⟩
  · exact h.elim
theorem awpN_ok : ∀ {r : List Oper} {i : Nat} {rd : NNs} {env : List (Nat × AV)} {mem : List (Nat × Ct × Bool)}, awpN ty Γ all mem0 K r env mem → awpD ty Γ all mem0 K i rd [] r env mem
  | [], i, rd, env, mem, h => h
  | o :: r, i, rd, env, mem, h => by
    rw [awpD_cons]
    unfold awpN at h
    refine bindG_mono h (nOne_ok (fun rd e m => awpN_ok (r := r))) (nOne_ok (fun rd e m => awpN_ok (r := r))) (awpN_ok (r := r)) (awpN_ok (r := r))
theorem awp_draw_n {Q : Post} {id : Nat} {l : List Oper} (hd : drawOk l = true) (h : ∀ all, all = l → ∀ K : List (Nat × AV) → List (Nat × Ct × Bool) → Prop, (∀ env mem, Q .normal env mem → K env mem) → awpN ty Γ all mem K l env mem) : awp ty Γ (.region id l.toArray true) Q env mem := ⟨hd, awpN_ok (h _ rfl _ fun _ _ h => h)⟩
theorem opsN_k (h : ∀ X : List (Nat × AV) → List (Nat × Ct × Bool) → Prop, (∀ env mem, awpN ty Γ all mem0 K r env mem → X env mem) → bindG (aGuard all ⟨lk env, lk mem⟩ o.guard) (nOne ty Γ mem0 o env mem X) (nOne ty Γ mem0 o (gset all o.guard true ++ env) mem X) (X (skipE o.dst (gset all o.guard false ++ env)) mem) (X (skipE o.dst env) mem)) : awpN ty Γ all mem0 K (o :: r) env mem := h _ fun _ _ h => h
theorem opsN_nil_i (h : K env mem) : awpN ty Γ all mem0 K [] env mem := h
theorem nOne_dst {d : Nat} {op : Op} {t : TypeId} {pos : String} {after : Array Edge} {g : Option (Nat × Bool)} {k : List (Nat × AV) → List (Nat × Ct × Bool) → Prop} :
    nOne ty Γ mem0 ⟨some d, op, t, pos, after, g⟩ env mem k = Chk (keysC mem0 env op) (bindO (aStep ty Γ ⟨lk env, lk mem⟩ d op) fun a m => Chk (freshM (lk mem) d m ∧ noFz m) (k ((d, a) :: env) (m ++ mem))) := rfl
theorem nOne_congr {env' : List (Nat × AV)} {mem' : List (Nat × Ct × Bool)} {k : List (Nat × AV) → List (Nat × Ct × Bool) → Prop} (h : env = env') (h' : mem = mem') : nOne ty Γ mem0 o env mem k = nOne ty Γ mem0 o env' mem' k := by rw [h, h']
theorem keysC_i {op : Op} (h : keysAt mem0 (lk env) (tmpsOf op) = true) : keysC mem0 env op := h
/-- The slots that are still wanted. -/
def keepE (live : List Nat) : List (Nat × AV) → List (Nat × AV)
  | [] => []
  | (k, a) :: r => if live.contains k then (k, a) :: keepE (live.erase k) r else keepE live r
end
end Go.AM
namespace Go.AM
variable [Lay]
variable {ty : Ty} {Γ : Gam} {Q : Post} {env : List (Nat × AV)} {mem : List (Nat × Ct × Bool)}
def keepL (live : List Nat) (env : List (Nat × AV)) : List (Nat × AV) := live.filterMap fun t => (lk env t).map fun a => (t, a)
theorem lk_keepL {env : List (Nat × AV)} {t : Nat} {a : AV} : ∀ {live : List Nat}, lk (keepL live env) t = some a → lk env t = some a
  | [], h => by cases h
  | x :: r, h => by
    cases hx : lk env x with
    | none =>
      have e : keepL (x :: r) env = keepL r env := by simp [keepL, hx]
      rw [e] at h; exact lk_keepL h
    | some b =>
      have e : keepL (x :: r) env = (x, b) :: keepL r env := by simp [keepL, hx]
      rw [e] at h
      simp only [lk] at h
      split at h
      · rename_i ht; subst ht; cases h; exact hx
      · exact lk_keepL h
/-- The first of each key. -/
def dedM : List (Nat × Ct × Bool) → List Nat → List (Nat × Ct × Bool)
  | [], _ => []
  | (k, c) :: r, seen => if seen.contains k then dedM r seen else (k, c) :: dedM r (k :: seen)
theorem lk_dedM : ∀ {mem : List (Nat × Ct × Bool)} {seen : List Nat} {t : Nat}, seen.contains t = false → lk (dedM mem seen) t = lk mem t
  | [], seen, t, h => rfl
  | (k, c) :: r, seen, t, h => by
    unfold dedM
    split
    · rename_i hk
      have hne : t ≠ k := fun e => by subst e; rw [hk] at h; cases h
      simp only [lk, if_neg hne]
      exact lk_dedM h
    · rename_i hk
      by_cases ht : t = k
      · subst ht; simp [lk]
      · simp only [lk, if_neg ht]
        exact lk_dedM (by simp only [List.contains_cons, h, Bool.or_false]; simpa using ht)
theorem ent_keep (live : List Nat) (env : List (Nat × AV)) (mem : List (Nat × Ct × Bool)) : Ent env mem (keepL live env) (dedM mem []) := by
  rintro V w0 N a w ⟨β, h⟩
  have hm : lk (dedM mem []) = lk mem := by funext t; exact lk_dedM rfl
  rw [hm]
  exact ⟨β, h.fresh, h.below, h.size, h.defers, h.mem, h.inj, fun t av ht => h.slots t av (lk_keepL ht)⟩
/-- Behind a: what is wanted yet. -/
theorem awp_seq_l (live : List Nat) {a b : Code} (h : ∀ K : List (Nat × AV) → List (Nat × Ct × Bool) → Prop, (∀ env mem, awp ty Γ b Q (keepL live env) (dedM mem []) → K env mem) → awp ty Γ a (thenP K Q) env mem) : awp ty Γ (.seq a b) Q env mem := by
  refine awp_mono (c := a) (Q' := thenP (awp ty Γ b Q) Q) (fun x e m hx => ?_) (h (fun e m => awp ty Γ b Q (keepL live e) (dedM m [])) fun e m h => h)
  cases x with
  | normal =>
    obtain ⟨e0, m0, h0, h1⟩ := hx
    exact ⟨keepL live e0, dedM m0 [], h0.trans (ent_keep live e0 m0), h1⟩
  | exit j => exact hx
  | ret => exact hx
theorem awp_loop_s {c : Code} {σ : Type} (I : σ → Prop) (E : σ → List (Nat × AV)) (M : σ → List (Nat × Ct × Bool)) (μ : σ → Nat) (s0 : σ) (hI : I s0) (h0 : Ent env mem (E s0) (M s0))
    (h : ∀ s, I s → awp ty Γ c (fun e env' mem' => match e with | .normal => ∃ s', Ent env' mem' (E s') (M s') ∧ I s' ∧ μ s' < μ s | e => Q e env' mem') (E s) (M s)) : awp ty Γ (.loop c) Q env mem := by
  refine ⟨{s // I s}, fun i => E i.1, fun i => M i.1, fun i => μ i.1, ⟨s0, hI⟩, h0, fun i => awp_mono (fun x e m hx => ?_) (h i.1 i.2)⟩
  cases x with
  | normal =>
    obtain ⟨s', h1, h2, h3⟩ := hx
    exact ⟨⟨s', h2⟩, h1, h3⟩
  | exit j => exact hx
  | ret => exact hx
/-- The same, by names: the round's end. -/
def lpP {σ : Type} (I : σ → Prop) (E : σ → List (Nat × AV)) (M : σ → List (Nat × Ct × Bool)) (μ : σ → Nat) (s : σ) (Q : Post) : Post := fun e env' mem' => match e with | .normal => ∃ s', Ent env' mem' (E s') (M s') ∧ I s' ∧ μ s' < μ s | e => Q e env' mem'
theorem lpP_normal_i {σ : Type} {I : σ → Prop} {E : σ → List (Nat × AV)} {M : σ → List (Nat × Ct × Bool)} {μ : σ → Nat} {s : σ} (h : ∃ s', Ent env mem (E s') (M s') ∧ I s' ∧ μ s' < μ s) : lpP I E M μ s Q .normal env mem := h
theorem lpP_ret {σ : Type} {I : σ → Prop} {E : σ → List (Nat × AV)} {M : σ → List (Nat × Ct × Bool)} {μ : σ → Nat} {s : σ} : lpP I E M μ s Q .ret env mem = Q .ret env mem := rfl
theorem lpP_exit {σ : Type} {I : σ → Prop} {E : σ → List (Nat × AV)} {M : σ → List (Nat × Ct × Bool)} {μ : σ → Nat} {s : σ} {j : Nat} : lpP I E M μ s Q (.exit j) env mem = Q (.exit j) env mem := rfl
theorem awp_lp {c : Code} {σ : Type} (I : σ → Prop) (E : σ → List (Nat × AV)) (M : σ → List (Nat × Ct × Bool)) (μ : σ → Nat) (s0 : σ) (hI : I s0) (h0 : Ent env mem (E s0) (M s0))
    (h : ∀ s, I s → awp ty Γ c (lpP I E M μ s Q) (E s) (M s)) : awp ty Γ (.loop c) Q env mem := awp_loop_s I E M μ s0 hI h0 fun s hs => awp_mono (fun x e m hx => by cases x <;> exact hx) (h s hs)
theorem retP_normal {vs : List ResultVar} {rs : Res} : retP ty vs rs .normal env mem = resOk ty (lk env) (lk mem) vs rs := rfl
def code (f : Func) : Code := f.body.getD .skip
theorem minLit (n : Nat) (h : n ≤ 64 := by decide) : min n 64 = n := Nat.min_eq_left h
theorem aOne_copy {d : Nat} {x y : Operand} {t u tt : TypeId} {pos : String} {after : Array Edge} {g : Option (Nat × Bool)} {k : List (Nat × AV) → List (Nat × Ct × Bool) → Prop} : aOne ty Γ ⟨some d, .call ⟨.builtin .copy, ⟨[x, y]⟩, ⟨[t, u]⟩⟩, tt, pos, after, g⟩ env mem k = bindP (spCopy ty env mem d x y t) fun s => k ((d, s.av) :: s.env) ((s.key, s.ct, false) :: mem) := aOne_sp rfl
theorem bindP_some (s : Sp) (k : Sp → Prop) : bindP (some s) k = Chk s.pre (k s) := rfl
def nrmD : DV → DV
  | .v (.slice none 0 0) => .sl .u64 []
  | d => d
/-- nil is the empty one. -/
def norm (s : CSpec) : CSpec := fun ds => s (ds.map nrmD)
theorem nrmD_rep {w : World} {d : DV} {v : Value} (h : RepD w d v) : RepD w (nrmD d) v := by
  unfold nrmD
  split
  · have hv : v = .slice none 0 0 := h
    exact ⟨none, 0, hv, Nat.le_refl _, Nat.zero_le _, fun hn => absurd rfl hn⟩
  · exact h
theorem nrmDs_rep {w : World} : ∀ {ds : List DV} {vs : List Value}, RepDs w ds vs → RepDs w (ds.map nrmD) vs
  | [], [], _ => trivial
  | [], _ :: _, h => h.elim
  | _ :: _, [], h => h.elim
  | _ :: _, _ :: _, h => ⟨nrmD_rep h.1, nrmDs_rep h.2⟩
theorem sound_norm {P : Program} {f : Nat} {fk : Fk} {spec : CSpec} (h : Sound P f fk spec) : Sound P f fk (norm spec) := by
  cases fk with
  | body =>
    obtain ⟨fn, h1, h2, h3, h4⟩ := h
    exact ⟨fn, h1, h2, h3, fun ds p r h5 h6 w vs hT h7 => h4 _ p r h5 h6 w vs hT (nrmDs_rep h7)⟩
  | ext => exact fun ds p r h5 h6 w vs h7 => h _ p r h5 h6 w vs (nrmDs_rep h7)
theorem gamOk_cons {P : Program} {f : Nat} {fk : Fk} {spec : CSpec} (h : Sound P f fk spec) (hΓ : GamOk P Γ) : GamOk P ((f, fk, spec) :: Γ) := by
  intro f' fk' spec' h'
  simp only [lk] at h'
  split at h'
  · rename_i he; subst he; cases h'; exact h
  · exact hΓ _ _ _ h'
end Go.AM
namespace Go.AM
variable [Lay]
variable {ty : Ty} {Γ : Gam} {Q : Post} {env : List (Nat × AV)} {mem : List (Nat × Ct × Bool)}
theorem thenP_ret_i {f : List (Nat × AV) → List (Nat × Ct × Bool) → Prop} (h : Q .ret env mem) : thenP f Q .ret env mem := h
theorem thenP_exit_i {f : List (Nat × AV) → List (Nat × Ct × Bool) → Prop} {i : Nat} (h : Q (.exit i) env mem) : thenP f Q (.exit i) env mem := h
theorem blockP_normal_i {id : Nat} (h : Q .normal env mem) : blockP id Q .normal env mem := h
theorem blockP_ret_i {id : Nat} (h : Q .ret env mem) : blockP id Q .ret env mem := h
theorem blockP_exit_i {id j : Nat} (h : if j = id then Q .normal env mem else Q (.exit j) env mem) : blockP id Q (.exit j) env mem := h
theorem awp_cond_k {x : Operand} {a b : Code} (h : aCond (opd ⟨lk env, lk mem⟩ x) (awp ty Γ a Q env mem) (awp ty Γ b Q env mem)) : awp ty Γ (.cond x a b) Q env mem := h
theorem retP_ret_i {vs : List ResultVar} {rs : Res} (h : resOk ty (lk env) (lk mem) vs rs) : retP ty vs rs .ret env mem := h
theorem retP_normal_i {vs : List ResultVar} {rs : Res} (h : resOk ty (lk env) (lk mem) vs rs) : retP ty vs rs .normal env mem := h
theorem lpP_ret_i {σ : Type} {I : σ → Prop} {E : σ → List (Nat × AV)} {M : σ → List (Nat × Ct × Bool)} {μ : σ → Nat} {s : σ} (h : Q .ret env mem) : lpP I E M μ s Q .ret env mem := h
theorem lpP_exit_i {σ : Type} {I : σ → Prop} {E : σ → List (Nat × AV)} {M : σ → List (Nat × Ct × Bool)} {μ : σ → Nat} {s : σ} {j : Nat} (h : Q (.exit j) env mem) : lpP I E M μ s Q (.exit j) env mem := h
theorem unrP_succ_i {c : Code} {n : Nat} (h : awp ty Γ c (unrP (ty := ty) (Γ := Γ) c Q n) env mem) : unrP (ty := ty) (Γ := Γ) c Q (Nat.succ n) .normal env mem := h
theorem unrP_exit_i {c : Code} {n j : Nat} (h : Q (.exit j) env mem) : unrP (ty := ty) (Γ := Γ) c Q n (.exit j) env mem := by cases n <;> exact h
theorem unrP_ret_i {c : Code} {n : Nat} (h : Q .ret env mem) : unrP (ty := ty) (Γ := Γ) c Q n .ret env mem := by cases n <;> exact h
theorem aOne_append {Γ : Gam} {d : Nat} {x y : Operand} {t u tt : TypeId} {pos : String} {after : Array Edge} {g : Option (Nat × Bool)} {k : List (Nat × AV) → List (Nat × Ct × Bool) → Prop} : aOne ty Γ ⟨some d, .call ⟨.builtin .append, ⟨[x, y]⟩, ⟨[t, u]⟩⟩, tt, pos, after, g⟩ env mem k = bindP (if t = u then spAppend ty env mem d x y t else none) fun s => k ((d, s.av) :: s.env) ((s.key, s.ct, false) :: mem) := aOne_sp rfl
end Go.AM
namespace Go.AM
variable [Lay]
def S1 := And.intro @nOne_dst <| And.intro @noFz_nil <| And.intro @noFz_cons <| And.intro @pow2.eq_1 <| And.intro @pow2.eq_2 <| And.intro @pow2.eq_3 <| And.intro @pow2.eq_4 <| And.intro @pow2.eq_5 <| And.intro @pow2.eq_6 <| And.intro @pow2.eq_7 <| And.intro @pow2.eq_8 <| And.intro @eq_self.{1} <| And.intro @entry.eq_1 <| And.intro @entry.eq_2 <| And.intro @entry.eq_3 <| And.intro @Chk_true <| And.intro @Brk_true <| And.intro @Brk_false <| And.intro @bindO_some <| And.intro @bindS_some <| And.intro @bindG_no <| And.intro @bindG_off <| And.intro @bindG_tt <| And.intro @awpOps_nil <| And.intro @aOne_move <| And.intro @aOne_assign <| And.intro @aOne_pick <| And.intro @aOne_alloc <| And.intro @aOne_box <| And.intro @aOne_build <| And.intro @aOne_buildSlice <| And.intro @aOne_load <| And.intro @aOne_bin <| And.intro @aOne_un <| And.intro @aOne_conv <| And.intro @aOne_make <| And.intro @aOne_slice <| And.intro @aOne_fieldAddr <| And.intro @aOne_field <| @aOne_indexAddr
def S2 := And.intro @aOne_index <| And.intro @aOne_extract <| And.intro @aOne_func <| And.intro @aOne_len <| And.intro @aOne_max <| And.intro @aOne_min <| And.intro @aOne_store <| And.intro @Option.getD_some.{0} <| And.intro @Option.getD_none.{0} <| And.intro @aGuard_none <| And.intro @aGuard_some <| And.intro @gset_none <| And.intro @gset_some <| And.intro @skipE.eq_1 <| And.intro @skipE.eq_2 <| And.intro @aStep.eq_1 <| And.intro @aStep.eq_2 <| And.intro @aStep.eq_3 <| And.intro @aStep.eq_4 <| And.intro @aStep.eq_5 <| And.intro @aStep.eq_6 <| And.intro @aStep.eq_7 <| And.intro @aStep.eq_8 <| And.intro @aStep.eq_9 <| And.intro @aStep.eq_10 <| And.intro @aStep.eq_11 <| And.intro @aStep.eq_12 <| And.intro @aStep.eq_13 <| And.intro @aStep.eq_14 <| And.intro @aStep.eq_15 <| And.intro @aStep.eq_16 <| And.intro @aStep.eq_17 <| And.intro @aStep.eq_18 <| And.intro @aStep.eq_19 <| And.intro @aStep.eq_20 <| And.intro @aStep.eq_21 <| And.intro @aStep.eq_22 <| And.intro @aStep.eq_23 <| And.intro @aStore.eq_1 <| @opd.eq_1
def S3 := And.intro @opd.eq_2 <| And.intro @opd.eq_3 <| And.intro @lk.eq_1 <| And.intro @lk.eq_2 <| And.intro @valOf.eq_1 <| And.intro @valOf.eq_2 <| And.intro @intOf.eq_1 <| And.intro @intOf.eq_2 <| And.intro @vcells.eq_1 <| And.intro @vcells.eq_2 <| And.intro @ldAt.eq_1 <| And.intro @ldAt.eq_2 <| And.intro @stAt.eq_1 <| And.intro @stAt.eq_2 <| And.intro @stAt.eq_3 <| And.intro @setL.eq_1 <| And.intro @setL.eq_2 <| And.intro @fillParts.eq_1 <| And.intro @fillParts.eq_2 <| And.intro @slLen.eq_1 <| And.intro @slLen.eq_2 <| And.intro @slLen.eq_3 <| And.intro @slLen.eq_4 <| And.intro @slLen.eq_5 <| And.intro @slInts.eq_1 <| And.intro @slInts.eq_2 <| And.intro @slInts.eq_3 <| And.intro @slInts.eq_4 <| And.intro @slInts.eq_5 <| And.intro @Ct.len.eq_1 <| And.intro @Ct.len.eq_2 <| And.intro @Ct.intsOf.eq_1 <| And.intro @Ct.intsOf.eq_2 <| And.intro @Ct.cells.eq_1 <| And.intro @Ct.cells.eq_2 <| And.intro @dvs.eq_1 <| And.intro @dvs.eq_2 <| And.intro @dvOf.eq_1 <| And.intro @dvOf.eq_2 <| @dvOf.eq_3
def S4 := And.intro @dvOf.eq_4 <| And.intro @dvOf.eq_5 <| And.intro @plainV.eq_1 <| And.intro @plainV.eq_2 <| And.intro @outRV.eq_1 <| And.intro @outRV.eq_2 <| And.intro @outRV.eq_3 <| And.intro @outRV.eq_4 <| And.intro @outMem.eq_1 <| And.intro @outMem.eq_2 <| And.intro @outMem.eq_3 <| And.intro @outAVs.eq_1 <| And.intro @outAVs.eq_2 <| And.intro @outMems.eq_1 <| And.intro @outMems.eq_2 <| And.intro @RV.isView.eq_1 <| And.intro @RV.isView.eq_2 <| And.intro @RV.isFresh.eq_1 <| And.intro @RV.isFresh.eq_2 <| And.intro @RV.isFresh.eq_3 <| And.intro @freezes.eq_1 <| And.intro @freezes.eq_2 <| And.intro @keyOf.eq_1 <| And.intro @keyOf.eq_2 <| And.intro @keyOf.eq_3 <| And.intro @bin.eq_1 <| And.intro @bin.eq_2 <| And.intro @bin.eq_3 <| And.intro @bin.eq_4 <| And.intro @bin.eq_5 <| And.intro @bin.eq_6 <| And.intro @bin.eq_7 <| And.intro @bin.eq_8 <| And.intro @bin.eq_9 <| And.intro @bin.eq_10 <| And.intro @bin.eq_11 <| And.intro @bin.eq_12 <| And.intro @bin.eq_13 <| And.intro @bin.eq_14 <| @bin.eq_15
def S5 := And.intro @bin.eq_16 <| And.intro @bin.eq_17 <| And.intro @bin.eq_18 <| And.intro @bin.eq_19 <| And.intro @bin.eq_20 <| And.intro @bin.eq_21 <| And.intro @bin.eq_22 <| And.intro @bin.eq_23 <| And.intro @bin.eq_24 <| And.intro @bin.eq_25 <| And.intro @bin.eq_26 <| And.intro @bin.eq_27 <| And.intro @un.eq_1 <| And.intro @un.eq_2 <| And.intro @un.eq_3 <| And.intro @un.eq_4 <| And.intro @conv.eq_1 <| And.intro @conv.eq_2 <| And.intro @conv.eq_3 <| And.intro @convF.eq_1 <| And.intro @convF.eq_2 <| And.intro @convF.eq_3 <| And.intro @fbin.eq_1 <| And.intro @fbin.eq_2 <| And.intro @fbin.eq_3 <| And.intro @fbin.eq_4 <| And.intro @fbin.eq_5 <| And.intro @fbin.eq_6 <| And.intro @fbin.eq_7 <| And.intro @fbin.eq_8 <| And.intro @fbin.eq_9 <| And.intro @fbin.eq_10 <| And.intro @fbin.eq_11 <| And.intro @arr.eq_1 <| And.intro @sgn.eq_1 <| And.intro @sgn.eq_2 <| And.intro @sgn.eq_3 <| And.intro @sgn.eq_4 <| And.intro @sgn.eq_5 <| @pickAV.eq_1
def S6 := And.intro @pickAV.eq_2 <| And.intro @lo?.eq_1 <| And.intro @lo?.eq_2 <| And.intro @hi?.eq_1 <| And.intro @hi?.eq_2 <| And.intro @stBuild.eq_1 <| And.intro @stCells.eq_1 <| And.intro @stBuildSlice.eq_1 <| And.intro @stLoad.eq_1 <| And.intro @stBin.eq_1 <| And.intro @stBin.eq_2 <| And.intro @stBin.eq_3 <| And.intro @stBin.eq_4 <| And.intro @stBin.eq_5 <| And.intro @stUn.eq_1 <| And.intro @stUn.eq_2 <| And.intro @stConv.eq_1 <| And.intro @stMake.eq_1 <| And.intro @stSlice.eq_1 <| And.intro @stSlice.eq_2 <| And.intro @stSlice.eq_3 <| And.intro @stSlice.eq_4 <| And.intro @stSlice.eq_5 <| And.intro @stSlice.eq_6 <| And.intro @stSlice.eq_7 <| And.intro @stFieldAddr.eq_1 <| And.intro @stField.eq_1 <| And.intro @stIndexAddr.eq_1 <| And.intro @stIndex.eq_1 <| And.intro @stExtract.eq_1 <| And.intro @stExtract.eq_2 <| And.intro @stLen.eq_1 <| And.intro @stLen.eq_2 <| And.intro @stMax.eq_1 <| And.intro @stMax.eq_2 <| And.intro @stMin.eq_1 <| And.intro @stMin.eq_2 <| And.intro @bindRes.eq_1 <| And.intro @bindRes.eq_2 <| @stCall.eq_1
def S7 := And.intro @slTy.eq_1 <| And.intro @strTy.eq_1 <| And.intro @boolOk.eq_1 <| And.intro @boolOk.eq_2 <| And.intro @places.eq_1 <| And.intro @bracket.eq_1 <| And.intro @freshM.eq_1 <| And.intro @freshM.eq_2 <| And.intro @okCells.eq_1 <| And.intro @okCells.eq_2 <| And.intro @okCells.eq_3 <| And.intro @okCells.eq_4 <| And.intro @fits.eq_1 <| And.intro @fits.eq_2 <| And.intro @fits.eq_3 <| And.intro @fits.eq_4 <| And.intro @fits.eq_5 <| And.intro @leafEq.eq_1 <| And.intro @leafEq.eq_2 <| And.intro @leafEq.eq_3 <| And.intro @leafEq.eq_4 <| And.intro @leafEq.eq_5 <| And.intro @Option.map_some.{0, 0} <| And.intro @Option.map_none.{0, 0} <| And.intro @Option.bind_some.{0, 0} <| And.intro @Option.bind_none.{0, 0} <| And.intro @Option.some.injEq.{0} <| And.intro @List.any_cons.{0} <| And.intro @List.any_nil.{0} <| And.intro @Bool.or_false <| And.intro @Bool.or_true <| And.intro @Bool.false_or <| And.intro @Bool.true_or <| And.intro @Bool.and_true <| And.intro @Bool.true_and <| And.intro @Bool.and_false <| And.intro @Bool.false_and <| And.intro @List.length_cons.{0} <| And.intro @List.length_nil.{0} <| @List.length_set.{0}
def S8 := And.intro @List.append_nil.{0} <| And.intro @List.nil_append.{0} <| And.intro @List.cons_append.{0} <| And.intro @Nat.zero_add <| And.intro @Nat.add_zero <| And.intro @Nat.le_refl <| And.intro @List.drop_zero.{0} <| And.intro @List.drop_succ_cons.{0} <| And.intro @List.take_succ_cons.{0} <| And.intro @List.take_zero.{0} <| And.intro @List.set_cons_zero.{0} <| And.intro @List.set_cons_succ.{0} <| And.intro @List.getD_cons_zero.{0} <| And.intro @List.getD_cons_succ.{0} <| And.intro @List.getElem?_cons_zero.{0} <| And.intro @List.getElem?_cons_succ.{0} <| And.intro @Bool.false_eq_true <| And.intro @beq_self_eq_true.{0} <| And.intro @bne_self_eq_false.{0} <| And.intro @bne.eq_1.{0} <| And.intro @undef_eq <| And.intro @beqT <| And.intro @Bool.true_beq <| And.intro @beqF <| And.intro @Bool.false_beq <| And.intro @Int.cast_ofNat_Int <| And.intro @Bool.not_true <| And.intro @Bool.not_false <| And.intro @List.getElem_toArray.{0} <| And.intro @Int.toNat_zero <| And.intro @Int.toNat_natCast <| And.intro @Nat.sub_zero <| And.intro @false_implies <| And.intro @and_self <| And.intro @and_true <| And.intro @true_and <| And.intro @or_true <| And.intro @true_or <| And.intro @or_false <| @false_or
def S9 := And.intro @not_true_eq_false <| And.intro @not_false_eq_true <| And.intro @ne_eq.{1} <| And.intro @List.replicate.eq_1.{0} <| And.intro @List.replicate.eq_2.{0} <| And.intro @Nat.zero_mul <| And.intro @decide_true <| And.intro @decide_false <| And.intro @keepL.eq_1 <| And.intro @dedM.eq_1 <| And.intro @dedM.eq_2 <| And.intro @List.filterMap_cons.{0, 0} <| And.intro @List.filterMap_nil.{0, 0} <| And.intro @List.contains_cons.{0} <| And.intro @List.contains_nil.{0} <| And.intro @dOne_dst <| And.intro @dOne_store <| And.intro @Option.isSome_some.{0} <| And.intro @resOk.eq_1 <| And.intro @resOk.eq_2 <| And.intro @resOk.eq_3 <| And.intro @rvOk.eq_1 <| And.intro @rvOk.eq_2 <| And.intro @rvOk.eq_3 <| And.intro @rvOk.eq_4 <| And.intro @rvOk.eq_5 <| And.intro @rvOk.eq_6 <| And.intro @rvsOk.eq_1 <| And.intro @rvsOk.eq_2 <| And.intro @rvsOk.eq_3 <| And.intro @rKeys.eq_1 <| And.intro @rKeys.eq_2 <| And.intro @rKeys.eq_3 <| And.intro @rKeys.eq_4 <| And.intro @nodupN.eq_1 <| And.intro @nodupN.eq_2 <| @aCond_bool
def SS := And.intro @S1 <| And.intro @S2 <| And.intro @S3 <| And.intro @S4 <| And.intro @S5 <| And.intro @S6 <| And.intro @S7 <| And.intro @S8 <| @S9
def HQ := And.intro @decide_eq_true_eq <| And.intro @decide_eq_false_iff_not <| And.intro @gt_iff_lt.{0} <| And.intro @ge_iff_le.{0} <| And.intro @Int.not_lt <| And.intro @Int.not_le <| And.intro @beq_iff_eq.{0} <| And.intro @beq_eq_false_iff_ne.{0} <| And.intro @Bool.not_eq_true' <| And.intro @Bool.not_eq_false' <| And.intro @Bool.and_eq_true <| And.intro @Bool.or_eq_true <| And.intro @Bool.and_eq_false_imp <| And.intro @Bool.or_eq_false_iff <| And.intro @ne_eq.{1} <| @Classical.not_not
section
variable [Lay]
variable {ty : Ty} {Γ : Gam} {Q : Post} {env : List (Nat × AV)} {mem : List (Nat × Ct × Bool)}
theorem qr (id : Nat) (live : List Nat) {o : Array Oper} {d : Bool} {b : Code} (h : ∀ K : List (Nat × AV) → List (Nat × Ct × Bool) → Prop, (∀ env mem, awp ty Γ b Q (keepL live env) (dedM mem []) → K env mem) → awp ty Γ (.region id o d) (thenP K Q) env mem) : awp ty Γ (.seq (.region id o d) b) Q env mem := awp_seq_l live h
theorem qb (id : Nat) (live : List Nat) {c b : Code} (h : ∀ K : List (Nat × AV) → List (Nat × Ct × Bool) → Prop, (∀ env mem, awp ty Γ b Q (keepL live env) (dedM mem []) → K env mem) → awp ty Γ (.block id c) (thenP K Q) env mem) : awp ty Γ (.seq (.block id c) b) Q env mem := awp_seq_l live h
end
end Go.AM
set_option maxRecDepth 20000
namespace Go.Proofs.AMT
open Go.AM Go.AM.LN
attribute [local congr] bindO_congr bindS_congr bindG_congr awpOps_congr aOne_congr awp_congr aCond_congr awpD_congr dOne_congr keysB_congr nOne_congr thenP_congr blockP_congr Chk_congr Brk_congr
theorem sSub64_eq (x y c : Int) : sSub64 [.v (.int .u64 x), .v (.int .u64 y), .v (.int .u64 c)] = some (0 ≤ x ∧ x < 18446744073709551616 ∧ 0 ≤ y ∧ y < 18446744073709551616 ∧ 0 ≤ c ∧ c ≤ 1, .many [.v (.int .u64 ((x - y - c) % 18446744073709551616)), .v (.int .u64 (if x < y + c then 1 else 0))]) := rfl
theorem sAdd64_eq (x y c : Int) : sAdd64 [.v (.int .u64 x), .v (.int .u64 y), .v (.int .u64 c)] = some (0 ≤ x ∧ 0 ≤ y ∧ 0 ≤ c ∧ c ≤ 1, .many [.v (.int .u64 ((x + y + c) % 18446744073709551616)), .v (.int .u64 ((x + y + c) / 18446744073709551616))]) := rfl
theorem sClone_eq (l : List Int) : norm sClone [.sl .u64 l] = some (l.length ≤ 100000000, .one (.fresh .u64 l)) := rfl
theorem sClone_nil : norm sClone [.v (.slice none 0 0)] = some (([] : List Int).length ≤ 100000000, .one (.fresh .u64 [])) := rfl
theorem clone_n : Sound Tryz.prog 63 .body (norm sClone) := sound_norm clone_sound
theorem gamOk_nil {P : Program} : GamOk P [] := fun _ _ _ h => by cases h
end Go.Proofs.AMT
namespace Go.AM.LN
def cmpI (x y : Nat) : Int := if x < y then -1 else if x = y then 0 else 1
theorem val_split {a : List Int} {i : Nat} (h : i < a.length) : val a = val (a.take i) + 2 ^ (64 * i) * ((a.getD i 0).toNat + 18446744073709551616 * val (a.drop (i + 1))) := by
  have e : a = a.take i ++ (a.getD i 0 :: a.drop (i + 1)) := by
    have : a.drop i = a.getD i 0 :: a.drop (i + 1) := by
      rw [List.drop_eq_getElem_cons h, List.getD, List.getElem?_eq_getElem h]; rfl
    rw [← this, List.take_append_drop]
  have hl : (a.take i).length = i := by rw [List.length_take]; omega
  calc val a = val (a.take i ++ (a.getD i 0 :: a.drop (i + 1))) := by rw [← e]
    _ = _ := by rw [val_app, hl, val]
theorem val_take_lt {a : List Int} (h : lim a) (i : Nat) : val (a.take i) < 2 ^ (64 * i) := by
  rw [val_take a i h]; exact Nat.mod_lt _ (Nat.two_pow_pos _)
theorem cmp_lt {a b : List Int} (la : lim a) (lb : lim b) {i : Nat} (hi : i < a.length) (hj : i < b.length) (hd : a.drop (i + 1) = b.drop (i + 1)) (hx : a.getD i 0 < b.getD i 0) : val a < val b := by
  rw [val_split hi, val_split hj, hd]
  have h1 := val_take_lt la i
  have h2 := lim_get la (i := i)
  have h3 : 2 ^ (64 * i) * ((a.getD i 0).toNat + 1 + 18446744073709551616 * val (b.drop (i + 1))) ≤ 2 ^ (64 * i) * ((b.getD i 0).toNat + 18446744073709551616 * val (b.drop (i + 1))) := Nat.mul_le_mul_left _ (by omega)
  rw [show (a.getD i 0).toNat + 1 + 18446744073709551616 * val (b.drop (i + 1)) = ((a.getD i 0).toNat + 18446744073709551616 * val (b.drop (i + 1))) + 1 by omega, Nat.mul_add] at h3
  omega
theorem len_lt {x y : Nat} (h : (limbs x).length < (limbs y).length) : x < y := by
  apply Classical.byContradiction
  intro hn
  have := blen_mono (show y ≤ x by omega)
  rw [len_limbs, len_limbs] at h
  omega
theorem drop_step {a b : List Int} {i : Nat} (hi : i < a.length) (hj : i < b.length) (hd : a.drop (i + 1) = b.drop (i + 1)) (hx : a.getD i 0 = b.getD i 0) : a.drop i = b.drop i := by
  have e1 : a.drop i = a.getD i 0 :: a.drop (i + 1) := by rw [List.drop_eq_getElem_cons hi, List.getD, List.getElem?_eq_getElem hi]; rfl
  have e2 : b.drop i = b.getD i 0 :: b.drop (i + 1) := by rw [List.drop_eq_getElem_cons hj, List.getD, List.getElem?_eq_getElem hj]; rfl
  rw [e1, e2, hd, hx]
theorem sz_limbs_le (n : Nat) : (limbs n).length = sz (limbs n) := (sz_limbs n).symm
theorem limbs_inj {x y : Nat} (h : limbs x = limbs y) : x = y := by rw [← val_limbs x, h, val_limbs]
theorem cmpI_lt {x y : Nat} (h : x < y) : cmpI x y = -1 := if_pos h
theorem cmpI_gt {x y : Nat} (h : y < x) : cmpI x y = 1 := by unfold cmpI; rw [if_neg (by omega), if_neg (by omega)]
theorem cmpI_eq {x y : Nat} (h : x = y) : cmpI x y = 0 := by unfold cmpI; rw [if_neg (by omega), if_pos h]
theorem cmpI_neg {x y : Nat} : cmpI x y < 0 ↔ x < y := by unfold cmpI; split <;> (try split) <;> omega
theorem sz_one {n : Int} : val [n] = n.toNat := by simp [val]
theorem lim_one {n : Int} (h : 0 ≤ n ∧ n < 18446744073709551616) : lim [n] := fun x hx => by
  rw [List.mem_singleton] at hx; subst hx; exact h
end Go.AM.LN
namespace Go.AM.LN
theorem getD_out {a : List Int} {i : Nat} (h : a.length ≤ i) : a.getD i 0 = 0 := by simp [List.getD, List.getElem?_eq_none h]
theorem val_take_succ' (a : List Int) (i : Nat) : val (a.take (i + 1)) = val (a.take i) + 2 ^ (64 * i) * (a.getD i 0).toNat := by
  by_cases h : i < a.length
  · exact val_take_succ h
  · rw [List.take_of_length_le (by omega), List.take_of_length_le (by omega), getD_out (by omega)]; simp
theorem take_set_succ {o : List Int} {i : Nat} (h : i < o.length) (v : Int) : (o.set i v).take (i + 1) = o.take i ++ [v] := by
  rw [take_succ (by simpa using h)]
  congr 1
  · rw [List.take_set_of_le (Nat.le_refl i)]
  · simp [List.getD, h]
theorem val_take_set {o : List Int} {i : Nat} (h : i < o.length) (v : Int) : val ((o.set i v).take (i + 1)) = val (o.take i) + 2 ^ (64 * i) * v.toNat := by
  rw [take_set_succ h, val_snoc, List.length_take, Nat.min_eq_left (by omega)]
theorem val_set_last {o : List Int} {n : Nat} (h : o.length = n + 1) (v : Int) : val (o.set n v) = val (o.take n) + 2 ^ (64 * n) * v.toNat := by
  rw [← val_take_set (by omega) v, List.take_of_length_le (by simp; omega)]
theorem add_step {x y o : List Int} {i c : Nat} (lx : lim x) (ly : lim y) (ho : i < o.length) (h : val (o.take i) + c * 2 ^ (64 * i) = val (x.take i) + val (y.take i)) :
    val ((o.set i ((x.getD i 0 + y.getD i 0 + (c : Int)) % 18446744073709551616)).take (i + 1)) + ((x.getD i 0 + y.getD i 0 + (c : Int)) / 18446744073709551616).toNat * 2 ^ (64 * (i + 1)) = val (x.take (i + 1)) + val (y.take (i + 1)) := by
  rw [val_take_set ho, val_take_succ', val_take_succ', p64]
  have h1 := lim_get lx (i := i)
  have h2 := lim_get ly (i := i)
  generalize x.getD i 0 = p at *
  generalize y.getD i 0 = q at *
  have e1 : ((p + q + (c : Int)) % 18446744073709551616).toNat = (p.toNat + q.toNat + c) % 18446744073709551616 := by omega
  have e2 : ((p + q + (c : Int)) / 18446744073709551616).toNat = (p.toNat + q.toNat + c) / 18446744073709551616 := by omega
  rw [e1, e2]
  generalize 2 ^ (64 * i) = P at *
  have e3 := Nat.div_add_mod (p.toNat + q.toNat + c) 18446744073709551616
  generalize (p.toNat + q.toNat + c) / 18446744073709551616 = d at *
  generalize (p.toNat + q.toNat + c) % 18446744073709551616 = m at *
  have e4 : P * m + d * (18446744073709551616 * P) = P * (p.toNat + q.toNat + c) := by
    rw [← e3, Nat.mul_add, Nat.add_comm]; congr 1
    exact (by ac_rfl)
  rw [Nat.mul_add, Nat.mul_add] at e4
  rw [Nat.mul_comm c P] at h
  omega
theorem sub_step {a b o : List Int} {i c : Nat} (lo : lim o) (lb : lim b) (hc : c ≤ 1) (ho : i < o.length) (hd : o.drop i = a.drop i) (hl : o.length = a.length) (h : val (o.take i) + val (b.take i) = val (a.take i) + c * 2 ^ (64 * i)) :
    val ((o.set i ((o.getD i 0 - b.getD i 0 - (c : Int)) % 18446744073709551616)).take (i + 1)) + val (b.take (i + 1)) = val (a.take (i + 1)) + (if o.getD i 0 < b.getD i 0 + (c : Int) then 1 else 0) * 2 ^ (64 * (i + 1)) := by
  have ha : a.getD i 0 = o.getD i 0 := by
    have h1 : o.drop i = o.getD i 0 :: o.drop (i + 1) := by rw [List.drop_eq_getElem_cons ho, List.getD, List.getElem?_eq_getElem ho]; rfl
    have h2 : a.drop i = a.getD i 0 :: a.drop (i + 1) := by rw [List.drop_eq_getElem_cons (by omega : i < a.length), List.getD, List.getElem?_eq_getElem (by omega : i < a.length)]; rfl
    rw [h1, h2] at hd
    exact (List.cons.inj hd).1.symm
  rw [val_take_set ho, val_take_succ', val_take_succ', p64, ha]
  have h1 := lim_get lo (i := i)
  have h2 := lim_get lb (i := i)
  generalize o.getD i 0 = p at *
  generalize b.getD i 0 = q at *
  generalize 2 ^ (64 * i) = P at *
  have e1 : ((p - q - (c : Int)) % 18446744073709551616).toNat + (q.toNat + c) = p.toNat + (if p < q + (c : Int) then 1 else 0) * 18446744073709551616 := by
    split <;> omega
  generalize ((p - q - (c : Int)) % 18446744073709551616).toNat = m at *
  generalize (if p < q + (c : Int) then 1 else 0) = d at *
  have e2 : P * m + P * q.toNat + c * P = P * p.toNat + d * (18446744073709551616 * P) := by
    have := congrArg (P * ·) e1
    simp only [Nat.mul_add] at this
    rw [Nat.mul_comm c P, Nat.mul_comm d, Nat.mul_comm 18446744073709551616 P, Nat.mul_assoc, Nat.mul_comm 18446744073709551616 d]
    omega
  omega
theorem drop_set_succ {o : List Int} {i : Nat} (v : Int) : (o.set i v).drop (i + 1) = o.drop (i + 1) := by
  rw [List.drop_set_of_lt (by omega)]
theorem drop_succ_of {o a : List Int} {i : Nat} (h : o.drop i = a.drop i) : o.drop (i + 1) = a.drop (i + 1) := by
  have := congrArg (List.drop 1) h
  simpa [List.drop_drop, Nat.add_comm] using this
theorem sub_fin {a b o : List Int} {c : Nat} (la : lim a) (lo : lim o) (lb : lim b) (hl : o.length = a.length) (hb : val b ≤ val a) (h : val o + val (b.take a.length) = val a + c * 2 ^ (64 * a.length)) : val o = val a - val b := by
  have h1 := val_lt la
  have h2 := val_lt lo
  rw [hl] at h2
  rw [val_take b _ lb, Nat.mod_eq_of_lt (by omega)] at h
  have hc : c = 0 := by
    apply Classical.byContradiction
    intro hn
    have : 1 * 2 ^ (64 * a.length) ≤ c * 2 ^ (64 * a.length) := Nat.mul_le_mul_right _ (by omega)
    omega
  subst hc
  omega
theorem sub_fin_c {a b o : List Int} {c : Nat} (la : lim a) (lo : lim o) (lb : lim b) (hl : o.length = a.length) (hb : val b ≤ val a) (h : val o + val (b.take a.length) = val a + c * 2 ^ (64 * a.length)) : c = 0 := by
  have h1 := val_lt la
  have h2 := val_lt lo
  rw [hl] at h2
  rw [val_take b _ lb, Nat.mod_eq_of_lt (by omega)] at h
  apply Classical.byContradiction
  intro hn
  have : 1 * 2 ^ (64 * a.length) ≤ c * 2 ^ (64 * a.length) := Nat.mul_le_mul_right _ (by omega)
  omega
end Go.AM.LN
namespace Go.AM
open LN
def tabB (T : ByteArray) : Bool := T.size == 256 && (List.range 256).all fun j => (T.data.toList.getD j 0).toNat == blen j
theorem tab_size {T : ByteArray} (h : tabB T = true) : T.size = 256 := by
  simp only [tabB, Bool.and_eq_true, beq_iff_eq] at h; exact h.1
theorem tab_at {T : ByteArray} (h : tabB T = true) {j : Int} (h0 : 0 ≤ j) (h1 : j < 256) : bt T j = (blen j.toNat : Int) := by
  simp only [tabB, Bool.and_eq_true, beq_iff_eq, List.all_eq_true, List.mem_range] at h
  unfold bt
  rw [h.2 j.toNat (by omega)]
def strOp : Op → Option ByteArray
  | .index _ (.const (.string s)) _ => some s
  | _ => none
/-- The first string of a code that is looked into. -/
def strIn : Code → Option ByteArray
  | .seq a b => (strIn a).or (strIn b)
  | .cond _ a b => (strIn a).or (strIn b)
  | .block _ a => strIn a
  | .loop a => strIn a
  | .region _ ops _ => ops.toList.findSome? fun o => strOp o.op
  | _ => none
namespace LN
theorem blen_div {x k : Nat} (h : 2 ^ k ≤ x) : blen x = blen (x / 2 ^ k) + k := by
  obtain ⟨j, hj⟩ : ∃ j, blen (x / 2 ^ k) = j + 1 := ⟨blen (x / 2 ^ k) - 1, by
    have := @blen_zero (x / 2 ^ k)
    have h2 : 1 ≤ x / 2 ^ k := (Nat.le_div_iff_mul_le (Nat.two_pow_pos k)).2 (by omega)
    omega⟩
  have h1 : 2 ^ j ≤ x / 2 ^ k := blen_le.1 (by omega)
  have h2 : x / 2 ^ k < 2 ^ (j + 1) := blen_lt.1 (by omega)
  rw [hj, show j + 1 + k = (j + k) + 1 by omega]
  apply blen_eq
  · rw [Nat.pow_add]; exact (Nat.le_div_iff_mul_le (Nat.two_pow_pos k)).1 h1
  · rw [show j + k + 1 = (j + 1) + k by omega, Nat.pow_add]
    exact (Nat.div_lt_iff_lt_mul (Nat.two_pow_pos k)).1 h2
theorem blen_small {x : Nat} (h : x < 256) : blen x ≤ 8 := blen_lt.2 h
theorem blen_top {a : List Int} (la : lim a) (h : sz a ≠ 0) : blen (val a) = 64 * (sz a - 1) + blen (a.getD (sz a - 1) 0).toNat := by
  have hz := sz_le a
  have h0 := sz_top h
  have hg := lim_get la (i := sz a - 1)
  have hd : val (a.drop (sz a)) = 0 := by
    rw [val_drop a _ la]
    apply Nat.div_eq_of_lt
    have := val_lt (lim_limbs (val a))
    rw [val_limbs, len_limbs_sz la] at this
    exact this
  have hs := val_split (a := a) (i := sz a - 1) (by omega)
  rw [show sz a - 1 + 1 = sz a by omega, hd] at hs
  have ht := val_take_lt la (sz a - 1)
  generalize hx : (a.getD (sz a - 1) 0).toNat = x at *
  have hx0 : x ≠ 0 := by omega
  obtain ⟨j, hj⟩ : ∃ j, blen x = j + 1 := ⟨blen x - 1, by have := @blen_zero x; omega⟩
  have h1 : 2 ^ j ≤ x := blen_le.1 (by omega)
  have h2 : x < 2 ^ (j + 1) := blen_lt.1 (by omega)
  rw [hj, show 64 * (sz a - 1) + (j + 1) = (64 * (sz a - 1) + j) + 1 by omega]
  apply blen_eq
  · rw [hs, Nat.pow_add]
    have := Nat.mul_le_mul_left (2 ^ (64 * (sz a - 1))) h1
    rw [Nat.mul_zero, Nat.add_zero]
    omega
  · rw [hs, show 64 * (sz a - 1) + j + 1 = 64 * (sz a - 1) + (j + 1) by omega, Nat.pow_add, Nat.mul_zero, Nat.add_zero]
    have := Nat.mul_le_mul_left (2 ^ (64 * (sz a - 1))) (show x + 1 ≤ 2 ^ (j + 1) by omega)
    rw [Nat.mul_add] at this
    omega
end LN
end Go.AM
set_option maxRecDepth 20000
namespace Go.Proofs.AMT
open Go.AM Go.AM.LN
attribute [local congr] bindO_congr bindS_congr bindG_congr awpOps_congr aOne_congr awp_congr aCond_congr awpD_congr dOne_congr keysB_congr nOne_congr thenP_congr blockP_congr Chk_congr Brk_congr
noncomputable def s26 : CSpec := fun ds => match ds with
  | [.v (.int .u64 x)] => some (0 ≤ x ∧ x < 18446744073709551616, .one (.v (.int .i64 (blen x.toNat))))
  | _ => none
theorem s26_eq (x : Int) : norm s26 [.v (.int .u64 x)] = some (0 ≤ x ∧ x < 18446744073709551616, .one (.v (.int .i64 (blen x.toNat)))) := rfl
noncomputable def G26 : Gam := []
theorem G26_ok : GamOk Tryz.prog G26 := gamOk_nil
set_option maxHeartbeats 20000000 in
theorem wk26 (x : Int) (hp : 0 ≤ x ∧ x < 18446744073709551616) : awp ty G26 (code Tryz.f26) (retP ty Tryz.f26.results.toList (.one (.v (.int .i64 (blen x.toNat))))) (entry 0 [.v (.int .u64 x)]) [] := by
  unfold code
  simp only [Tryz.f26, Option.getD_some]
  obtain ⟨T, hT⟩ : ∃ T, some T = strIn (code Tryz.f26) := ⟨_, rfl⟩
  have hk : tabB T = true := by rw [Option.some.inj hT]; kernel_rfl
  simp only [code, Tryz.f26, Option.getD_some, strIn, strOp, List.findSome?_cons, List.findSome?_nil, Option.none_or, Option.or_none, Option.some.injEq] at hT
  simp only [← hT]
  clear hT
  have hsz := tab_size hk
  have bs : ∀ {j : Int}, 0 ≤ j → j < 256 → bt T j = (blen j.toNat : Int) ∧ blen j.toNat ≤ 8 := fun h0 h1 => ⟨tab_at hk h0 h1, blen_small (by omega)⟩
  all_goals repeat' (first
    | ((first
       | (with_reducible refine ops_k ?_; intro X hX)
       | (with_reducible refine opsN_k ?_; intro X hX)
       | (with_reducible show awp _ _ _ _ (keepL _ _) _)
       | with_reducible refine awp_cond_k ?_
       | (with_reducible refine Brk_i ?_ ?_ <;> intro hb <;> (try simp only [hb]) <;> have hq := hb <;> try simp only [decide_eq_true_eq, decide_eq_false_iff_not, gt_iff_lt, ge_iff_le, Int.not_lt, Int.not_le, beq_iff_eq, beq_eq_false_iff_ne, Bool.not_eq_true', Bool.not_eq_false', Bool.and_eq_true, Bool.or_eq_true, Bool.and_eq_false_imp, Bool.or_eq_false_iff, ne_eq, Classical.not_not] at hq)
       | with_reducible refine retP_ret_i ?_
       | with_reducible refine retP_normal_i ?_
       | (with_reducible (show bindG _ _ _ _ _); simp only [hall])) <;> try simp only [Go.AM.S1, Go.AM.S2, Go.AM.S3, Go.AM.S4, Go.AM.S5, Go.AM.S6, Go.AM.S7, Go.AM.S8, Go.AM.S9, Nat.reduceAdd, Nat.reduceMul, Nat.reduceSub, ↓reduceIte, Nat.reduceEqDiff, Nat.reduceLT, Nat.reduceLeDiff, reduceCtorEq, Int.reduceBEq, Int.reduceBNe, Nat.reduceBEq, Int.reduceEq, Int.reduceToNat, Int.reduceLE, Int.reduceLT, Nat.reduceDiv, Int.reduceAdd, Int.reduceSub, Int.reduceMul, Int.reduceNeg, Int.reduceGT, Int.reduceGE, Nat.reduceMod, ty_3, ty_5, ty_9, ty_22, ty_37, IntKind.bits, Int.reducePow, minLit])
    | (with_reducible refine hX _ _ ?_; clear hX X)
    | (with_reducible refine ops_nil_i ?_; try clear hall all)
    | (with_reducible refine opsN_nil_i ?_; try clear hall all)
    | (with_reducible refine hK _ _ ?_; clear hK K)
    | with_reducible refine thenP_normal_i ?_
    | (with_reducible refine zzr10 _ _ ?_; try clear zzr10 Kzzr10)
    | (with_reducible refine zzsr7 _ _ ?_; try clear zzsr7 Kzzsr7)
    | (with_reducible refine zzr8 _ _ ?_; try clear zzr8 Kzzr8)
    | (with_reducible refine zzr7 _ _ ?_; try clear zzr7 Kzzr7)
    | (with_reducible refine zzsr4 _ _ ?_; try clear zzsr4 Kzzsr4)
    | (with_reducible refine zzr5 _ _ ?_; try clear zzr5 Kzzr5)
    | (with_reducible refine zzr4 _ _ ?_; try clear zzr4 Kzzr4)
    | (with_reducible refine zzsr1 _ _ ?_; try clear zzsr1 Kzzsr1)
    | (with_reducible refine zzr2 _ _ ?_; try clear zzr2 Kzzr2)
    | (with_reducible refine zzr1 _ _ ?_; try clear zzr1 Kzzr1)
    | (with_reducible refine zzr0 _ _ ?_; try clear zzr0 Kzzr0)
    | (with_reducible refine awp_seq_l (a := .region 10 _ _) [2] ?_; intro Kzzr10 zzr10)
    | (with_reducible refine awp_seq_l (a := .seq (.region 7 _ _) _) [0, 2] ?_; intro Kzzsr7 zzsr7)
    | (with_reducible refine awp_seq_l (a := .region 8 _ _) [0, 2] ?_; intro Kzzr8 zzr8)
    | (with_reducible refine awp_seq_l (a := .region 7 _ _) [0, 2, 14] ?_; intro Kzzr7 zzr7)
    | (with_reducible refine awp_seq_l (a := .seq (.region 4 _ _) _) [0, 2] ?_; intro Kzzsr4 zzsr4)
    | (with_reducible refine awp_seq_l (a := .region 5 _ _) [0, 2] ?_; intro Kzzr5 zzr5)
    | (with_reducible refine awp_seq_l (a := .region 4 _ _) [0, 2, 8] ?_; intro Kzzr4 zzr4)
    | (with_reducible refine awp_seq_l (a := .seq (.region 1 _ _) _) [0, 2] ?_; intro Kzzsr1 zzsr1)
    | (with_reducible refine awp_seq_l (a := .region 2 _ _) [0] ?_; intro Kzzr2 zzr2)
    | (with_reducible refine awp_seq_l (a := .region 1 _ _) [0, 2, 4] ?_; intro Kzzr1 zzr1)
    | (with_reducible refine awp_seq_l (a := .region 0 _ _) [0, 2] ?_; intro Kzzr0 zzr0)
    | (with_reducible refine awp_seq_k ?_; intro K hK)
    | (with_reducible refine awp_region_a ?_; intro all hall K hK)
    | (with_reducible refine awp_draw_n ?_ ?_; kernel_rfl; intro all hall K hK)
    | (with_reducible refine Chk_i ?_ ?_)
    | (with_reducible refine keysC_i ?_; kernel_rfl)
    | (with_reducible first | refine awp_block_i ?_ | refine awp_skip_i ?_ | refine awp_ret_i ?_ | refine awp_exit_i ?_ | refine thenP_ret_i ?_ | refine thenP_exit_i ?_ | refine lpP_ret_i ?_ | refine lpP_exit_i ?_ | refine unrP_succ_i ?_ | refine unrP_ret_i ?_ | refine unrP_exit_i ?_ | refine blockP_normal_i ?_ | refine blockP_ret_i ?_)
    | (with_reducible refine blockP_exit_i ?_; simp only [↓reduceIte, Nat.reduceEqDiff])
    | with_reducible refine lpP_normal_i ?_)
  all_goals (try clear zzr0; try clear Kzzr0)
  all_goals (try clear zzr1; try clear Kzzr1)
  all_goals (try clear zzr2; try clear Kzzr2)
  all_goals (try clear zzsr1; try clear Kzzsr1)
  all_goals (try clear zzr4; try clear Kzzr4)
  all_goals (try clear zzr5; try clear Kzzr5)
  all_goals (try clear zzsr4; try clear Kzzsr4)
  all_goals (try clear zzr7; try clear Kzzr7)
  all_goals (try clear zzr8; try clear Kzzr8)
  all_goals (try clear zzsr7; try clear Kzzsr7)
  all_goals (try clear zzr10; try clear Kzzr10)
  all_goals have b0 := bs (j := x % 256) (by omega) (by omega)
  all_goals have c0 : x < 256 → blen (x % 256).toNat = blen (x.toNat / 2 ^ 0) := fun h => by congr 1; omega
  all_goals have d0 : blen x.toNat = blen (x.toNat / 2 ^ 0) := by rw [Nat.pow_zero, Nat.div_one]
  all_goals have b1 := bs (j := x / 256 % 256) (by omega) (by omega)
  all_goals have c1 : x < 65536 → blen (x / 256 % 256).toNat = blen (x.toNat / 2 ^ 8) := fun h => by congr 1; omega
  all_goals have d1 : 256 ≤ x → blen x.toNat = blen (x.toNat / 2 ^ 8) + 8 := fun h => blen_div (by omega)
  all_goals have b2 := bs (j := x / 65536 % 256) (by omega) (by omega)
  all_goals have c2 : x < 16777216 → blen (x / 65536 % 256).toNat = blen (x.toNat / 2 ^ 16) := fun h => by congr 1; omega
  all_goals have d2 : 65536 ≤ x → blen x.toNat = blen (x.toNat / 2 ^ 16) + 16 := fun h => blen_div (by omega)
  all_goals have b3 := bs (j := x / 65536 / 256 % 256) (by omega) (by omega)
  all_goals have c3 : x < 4294967296 → blen (x / 65536 / 256 % 256).toNat = blen (x.toNat / 2 ^ 24) := fun h => by congr 1; omega
  all_goals have d3 : 16777216 ≤ x → blen x.toNat = blen (x.toNat / 2 ^ 24) + 24 := fun h => blen_div (by omega)
  all_goals have b4 := bs (j := x / 4294967296 % 256) (by omega) (by omega)
  all_goals have c4 : x < 1099511627776 → blen (x / 4294967296 % 256).toNat = blen (x.toNat / 2 ^ 32) := fun h => by congr 1; omega
  all_goals have d4 : 4294967296 ≤ x → blen x.toNat = blen (x.toNat / 2 ^ 32) + 32 := fun h => blen_div (by omega)
  all_goals have b5 := bs (j := x / 4294967296 / 256 % 256) (by omega) (by omega)
  all_goals have c5 : x < 281474976710656 → blen (x / 4294967296 / 256 % 256).toNat = blen (x.toNat / 2 ^ 40) := fun h => by congr 1; omega
  all_goals have d5 : 1099511627776 ≤ x → blen x.toNat = blen (x.toNat / 2 ^ 40) + 40 := fun h => blen_div (by omega)
  all_goals have b6 := bs (j := x / 4294967296 / 65536 % 256) (by omega) (by omega)
  all_goals have c6 : x < 72057594037927936 → blen (x / 4294967296 / 65536 % 256).toNat = blen (x.toNat / 2 ^ 48) := fun h => by congr 1; omega
  all_goals have d6 : 281474976710656 ≤ x → blen x.toNat = blen (x.toNat / 2 ^ 48) + 48 := fun h => blen_div (by omega)
  all_goals have b7 := bs (j := x / 4294967296 / 65536 / 256 % 256) (by omega) (by omega)
  all_goals have c7 : x < 18446744073709551616 → blen (x / 4294967296 / 65536 / 256 % 256).toNat = blen (x.toNat / 2 ^ 56) := fun h => by congr 1; omega
  all_goals have d7 : 72057594037927936 ≤ x → blen x.toNat = blen (x.toNat / 2 ^ 56) + 56 := fun h => blen_div (by omega)
  all_goals (try simp only [inR, hsz])
  all_goals first
    | omega
    | (refine congrArg _ ?_; omega)
theorem sound_26 : Sound Tryz.prog 26 .body (norm s26) := by
  refine sound_norm (sound_body Tryz.func26 (show Tryz.f26.body = some (code Tryz.f26) from rfl) (by kernel_rfl) tysOk G26_ok (drawOk_ok (by kernel_rfl) tysOk G26_ok) (by kernel_rfl) fun ds p r hs hp => ?_)
  unfold s26 at hs
  split at hs
  · cases hs; exact ⟨Nat.le_of_ble_eq_true (by kernel_rfl), wk26 _ hp⟩
  · cases hs
end Go.Proofs.AMT
namespace Go.AM.LN
theorem mul_mod_div {x s : Nat} (hx : x < 18446744073709551616) (hs : s ≤ 64) : (x * 2 ^ s) % 18446744073709551616 + 18446744073709551616 * (x / 2 ^ (64 - s)) = x * 2 ^ s := by
  have e : (18446744073709551616 : Nat) = 2 ^ (64 - s) * 2 ^ s := by rw [← Nat.pow_add, show 64 - s + s = 64 by omega]
  have h1 : x * 2 ^ s / 18446744073709551616 = x / 2 ^ (64 - s) := by
    rw [e, Nat.mul_div_mul_right _ _ (Nat.two_pow_pos s)]
  rw [← h1]
  have := Nat.div_add_mod (x * 2 ^ s) 18446744073709551616
  omega
theorem or_shl {x y s : Nat} (hs : s ≤ 64) (hy : y < 2 ^ s) : (x * 2 ^ s) % 18446744073709551616 ||| y = (x * 2 ^ s) % 18446744073709551616 + y := by
  have e : (18446744073709551616 : Nat) = 2 ^ (64 - s) * 2 ^ s := by rw [← Nat.pow_add, show 64 - s + s = 64 by omega]
  rw [e, Nat.mul_mod_mul_right, Nat.mul_comm, ← Nat.two_pow_add_eq_or_of_lt hy]
theorem hi_lt {x s : Nat} (hx : x < 18446744073709551616) (hs : s ≤ 64) : x / 2 ^ (64 - s) < 2 ^ s := by
  rw [Nat.div_lt_iff_lt_mul (Nat.two_pow_pos _), ← Nat.pow_add, show s + (64 - s) = 64 by omega]
  exact hx
/-- A word of a number shifted to the left. -/
theorem shl_word {x y : Int} {s : Nat} (hx : 0 ≤ x ∧ x < 18446744073709551616) (hy : 0 ≤ y ∧ y < 18446744073709551616) (hs : s ≤ 64) :
    bits .or .u64 (x * 2 ^ s % 18446744073709551616) (y / 2 ^ (64 - s)) = (((x.toNat * 2 ^ s) % 18446744073709551616 + y.toNat / 2 ^ (64 - s) : Nat) : Int) := by
  obtain ⟨x, rfl⟩ := Int.eq_ofNat_of_zero_le hx.1
  obtain ⟨y, rfl⟩ := Int.eq_ofNat_of_zero_le hy.1
  have e1 : (x : Int) * 2 ^ s % 18446744073709551616 = ((x * 2 ^ s % 18446744073709551616 : Nat) : Int) := by
    rw [Int.natCast_emod, Int.natCast_mul, Int.natCast_pow]; rfl
  have e2 : (y : Int) / 2 ^ (64 - s) = ((y / 2 ^ (64 - s) : Nat) : Int) := by
    rw [Int.natCast_ediv, Int.natCast_pow]; rfl
  have h1 := hi_lt (x := y) (by omega) hs
  have h2 : y / 2 ^ (64 - s) ≤ y := Nat.div_le_self _ _
  have h3 := or_shl (x := x) hs h1
  rw [e1, e2]
  simp only [Int.toNat_natCast]
  rw [← h3]
  generalize y / 2 ^ (64 - s) = q at *
  generalize x * 2 ^ s = p at *
  rw [or_u64 ⟨by omega, by omega⟩ ⟨by omega, by omega⟩]
  simp only [Int.toNat_natCast]
theorem drop_cons {a : List Int} {i : Nat} (h : i < a.length) : a.drop i = a.getD i 0 :: a.drop (i + 1) := by
  rw [List.drop_eq_getElem_cons h, List.getD, List.getElem?_eq_getElem h]; rfl
theorem drop_set_cons {o : List Int} {i : Nat} (h : i < o.length) (v : Int) : (o.set i v).drop i = v :: o.drop (i + 1) := by
  rw [drop_cons (by simpa using h), drop_set_succ]
  congr 1
  simp [List.getD, h]
theorem shl_step {o o0 : List Int} {i s : Nat} (l0 : lim o0) (hi : i < o.length) (hl : o.length = o0.length) (hs : s ≤ 64)
    (h : val (o.drop (i + 1)) = val (o0.drop (i + 1)) * 2 ^ s + (o0.getD i 0).toNat / 2 ^ (64 - s)) (z : Nat) :
    val ((o.set i ((((o0.getD i 0).toNat * 2 ^ s) % 18446744073709551616 + z : Nat) : Int)).drop i) = val (o0.drop i) * 2 ^ s + z := by
  have hx := lim_get l0 (i := i)
  rw [drop_set_cons hi, drop_cons (a := o0) (i := i) (by omega)]
  simp only [val, h, Int.toNat_natCast]
  have := mul_mod_div (x := (o0.getD i 0).toNat) (s := s) (by omega) hs
  rw [Nat.mul_add, Nat.add_mul, Nat.mul_assoc]
  omega
theorem take_getD {o o0 : List Int} {n i : Nat} (h : o.take n = o0.take n) (hi : i < n) : o.getD i 0 = o0.getD i 0 := by
  have h1 : (o.take n).getD i 0 = o.getD i 0 := by simp [List.getD, hi]
  have h2 : (o0.take n).getD i 0 = o0.getD i 0 := by simp [List.getD, hi]
  rw [← h1, ← h2, h]
theorem take_le_of {o o0 : List Int} {n m : Nat} (h : o.take n = o0.take n) (hm : m ≤ n) : o.take m = o0.take m := by
  have := congrArg (List.take m) h
  rwa [List.take_take, List.take_take, Nat.min_eq_left hm] at this
theorem val_take_drop (o : List Int) (w : Nat) (hw : w ≤ o.length) : val o = val (o.take w) + 2 ^ (64 * w) * val (o.drop w) := by
  have := val_app (o.take w) (o.drop w)
  rwa [List.take_append_drop, List.length_take, Nat.min_eq_left hw] at this
theorem wrap_lim (e : Int) : 0 ≤ IntKind.u64.wrap e ∧ IntKind.u64.wrap e < 18446744073709551616 := by
  simp only [IntKind.wrap]
  simp [IntKind.bits, IntKind.signed]
  omega
theorem or_lim (x y : Int) : 0 ≤ bits .or .u64 x y ∧ bits .or .u64 x y < 18446744073709551616 := wrap_lim _
theorem and_lim (x y : Int) : 0 ≤ bits .and .u64 x y ∧ bits .and .u64 x y < 18446744073709551616 := wrap_lim _
/-- What is to be shifted within its words. -/
structure Shl0 (va w N : Nat) (o0 : List Int) : Prop where
  len : o0.length = N
  lm : lim o0
  vl : val o0 = 2 ^ (64 * w) * va
  low : val (o0.take w) = 0
  top : o0.getD (N - 1) 0 = 0
  wN : w < N
theorem shl0_mk {va w N : Nat} (hN : N = w + ((limbs va).length + 1)) : Shl0 va w N (List.replicate w 0 ++ limbs va ++ [0]) := by
  refine ⟨by simp [hN], ?_, ?_, ?_, ?_, by omega⟩
  · rw [lim_app, lim_app]; exact ⟨⟨lim_rep _, lim_limbs _⟩, lim_one ⟨by omega, by omega⟩⟩
  · rw [List.append_assoc, val_app, val_rep, List.length_replicate, val_app, val_limbs, sz_one]; simp
  · rw [List.append_assoc, List.take_append_of_le_length (by simp), List.take_of_length_le (by simp), val_rep]
  · rw [hN, List.getD, List.getElem?_append_right (by simp)]
    simp
theorem copy0 {va w N : Nat} (hN : N = w + ((limbs va).length + 1)) : List.take w (List.replicate N (0 : Int)) ++ List.take (N - w) (limbs va) ++ List.drop (w + (List.take (N - w) (limbs va)).length) (List.replicate N 0) = List.replicate w 0 ++ limbs va ++ [0] := by
  rw [List.take_of_length_le (l := limbs va) (by omega), List.take_replicate, List.drop_replicate, hN]
  rw [Nat.min_eq_left (by omega), show w + ((limbs va).length + 1) - (w + (limbs va).length) = 1 by omega]
  rfl
theorem shl_val {va w N s : Nat} {o0 o : List Int} (h0 : Shl0 va w N o0) (hl : o.length = N) (ht : o.take w = o0.take w) (hd : val (o.drop w) = val (o0.drop w) * 2 ^ s) : val o = va * 2 ^ (64 * w + s) := by
  rw [val_take_drop o w (by have := h0.wN; omega), ht, h0.low, hd]
  have := val_take_drop o0 w (by have := h0.wN; have := h0.len; omega)
  rw [h0.low, h0.vl, Nat.zero_add] at this
  have hp : 0 < 2 ^ (64 * w) := Nat.two_pow_pos _
  have e := Nat.eq_of_mul_eq_mul_left hp this
  rw [← e, Nat.pow_add]
  rw [Nat.zero_add]
  ac_rfl
theorem shl_last {o o0 : List Int} {w s : Nat} (l0 : lim o0) (hw : w < o.length) (hl : o.length = o0.length) (hs : s ≤ 64) (ht : o.take (w + 1) = o0.take (w + 1))
    (h : val (o.drop (w + 1)) = val (o0.drop (w + 1)) * 2 ^ s + (o0.getD w 0).toNat / 2 ^ (64 - s)) :
    o.set w (o.getD w 0 * 2 ^ s % 18446744073709551616) = o.set w ((((o0.getD w 0).toNat * 2 ^ s) % 18446744073709551616 + 0 : Nat) : Int) ∧ val ((o.set w (o.getD w 0 * 2 ^ s % 18446744073709551616)).drop w) = val (o0.drop w) * 2 ^ s ∧ (0 ≤ o.getD w 0 * 2 ^ s % 18446744073709551616 ∧ o.getD w 0 * 2 ^ s % 18446744073709551616 < 18446744073709551616) := by
  have e1 := take_getD ht (i := w) (by omega)
  have hx := lim_get l0 (i := w)
  obtain ⟨x, hx2⟩ := Int.eq_ofNat_of_zero_le hx.1
  have e2 : o.getD w 0 * 2 ^ s % 18446744073709551616 = ((((o0.getD w 0).toNat * 2 ^ s) % 18446744073709551616 + 0 : Nat) : Int) := by
    rw [e1, hx2, Nat.add_zero, Int.natCast_emod, Int.natCast_mul, Int.natCast_pow]; rfl
  have h1 := shl_step l0 hw hl hs h 0
  rw [e2]
  exact ⟨rfl, h1, by omega, by omega⟩
theorem take_set_lt {o : List Int} {i n : Nat} (h : n ≤ i) (v : Int) : (o.set i v).take n = o.take n := List.take_set_of_le h
end Go.AM.LN
namespace Go.AM.LN
theorem dm_add (x y q r : Nat) (hy : 0 < y) (hr : r < y) (h : x = q * y + r) : x / y = q ∧ x % y = r := by
  subst h
  exact ⟨by rw [Nat.add_comm, Nat.add_mul_div_right _ _ hy, Nat.div_eq_of_lt hr, Nat.zero_add], by rw [Nat.add_comm, Nat.add_mul_mod_self_right, Nat.mod_eq_of_lt hr]⟩
theorem nat_lim {n : Nat} (h : n < 18446744073709551616) : 0 ≤ (n : Int) ∧ (n : Int) < 18446744073709551616 := by omega
/-- One word of a long division by one word. -/
theorem word_step {a o : List Int} {i n r : Nat} (la : lim a) (hn : 0 < n) (hr : r < n) (hi : i < a.length) (hl : o.length = a.length)
    (h : val (o.drop (i + 1)) = val (a.drop (i + 1)) / n ∧ r = val (a.drop (i + 1)) % n) :
    val ((o.set i (((r * 18446744073709551616 + (a.getD i 0).toNat) / n : Nat) : Int)).drop i) = val (a.drop i) / n ∧ (r * 18446744073709551616 + (a.getD i 0).toNat) % n = val (a.drop i) % n := by
  rw [drop_set_cons (by omega), drop_cons hi]
  simp only [val, Int.toNat_natCast]
  rw [h.1]
  have e := Nat.div_add_mod (val (a.drop (i + 1))) n
  rw [← h.2] at e
  generalize val (a.drop (i + 1)) = d at *
  generalize (a.getD i 0).toNat = x at *
  have e2 := Nat.div_add_mod (r * 18446744073709551616 + x) n
  have e3 := Nat.mod_lt (r * 18446744073709551616 + x) hn
  have key : x + 18446744073709551616 * d = ((r * 18446744073709551616 + x) / n + 18446744073709551616 * (d / n)) * n + (r * 18446744073709551616 + x) % n := by
    have : 18446744073709551616 * d = 18446744073709551616 * (n * (d / n)) + 18446744073709551616 * r := by rw [← Nat.mul_add, e]
    rw [Nat.add_mul, this, Nat.mul_comm _ n, show 18446744073709551616 * (d / n) * n = 18446744073709551616 * (n * (d / n)) by ac_rfl]
    omega
  have := dm_add _ n _ _ hn e3 key
  exact ⟨this.1.symm, this.2.symm⟩
theorem word_lt {x r n : Nat} (hn : 0 < n) (hr : r < n) (hx : x < 18446744073709551616) : (r * 18446744073709551616 + x) / n < 18446744073709551616 := by
  rw [Nat.div_lt_iff_lt_mul hn]
  have : (r + 1) * 18446744073709551616 ≤ n * 18446744073709551616 := Nat.mul_le_mul_right _ hr
  rw [Nat.mul_comm 18446744073709551616 n]
  omega
end Go.AM.LN
namespace Go.AM.LN
theorem len_mono {x y : Nat} (h : x ≤ y) : (limbs x).length ≤ (limbs y).length := by
  rw [len_limbs, len_limbs]; have := blen_mono h; omega
theorem len_zero {x : Nat} : (limbs x).length = 0 ↔ x = 0 := by
  rw [len_limbs]; have := @blen_zero x; omega
theorem limbs_getD0 (n : Nat) : (limbs n).getD 0 0 = ((n % 18446744073709551616 : Nat) : Int) := by
  by_cases h : n = 0
  · subst h; rfl
  · rw [limbs_pos h]; rfl
theorem odd_eq (q : Nat) : (bits .and .u64 ((limbs q).getD 0 0) 1 == 1) = (q % 2 == 1) := by
  have h := and_mask (a := (limbs q).getD 0 0) 1 (lim_get (lim_limbs q)) (by omega)
  rw [show (2 : Int) ^ 1 - 1 = 1 by decide, show (2 : Int) ^ 1 = 2 by decide] at h
  rw [h, limbs_getD0, Bool.eq_iff_iff]
  simp
  omega
theorem len_le_of {n k : Nat} (h : n < 2 ^ (64 * k)) : (limbs n).length ≤ k := by
  rw [len_limbs]; have := blen_lt.2 h; omega
theorem lt_of_len {n k : Nat} (h : (limbs n).length ≤ k) : n < 2 ^ (64 * k) := by
  rw [len_limbs] at h; exact blen_lt.1 (by omega)
theorem bits_list {a : List Int} (h : a.length ≤ 4) : List.map (Value.int .u64) (List.take 4 a) ++ List.drop (List.take 4 a).length [Value.int .u64 0, Value.int .u64 0, Value.int .u64 0, Value.int .u64 0] = [Value.int .u64 (a.getD 0 0), Value.int .u64 (a.getD 1 0), Value.int .u64 (a.getD 2 0), Value.int .u64 (a.getD 3 0)] := by
  match a, h with
  | [], _ => rfl
  | [_], _ => rfl
  | [_, _], _ => rfl
  | [_, _, _], _ => rfl
  | [_, _, _, _], _ => rfl
/-! to the right -/
theorem shr_word {x y : Int} {s : Nat} (hx : 0 ≤ x ∧ x < 18446744073709551616) (hy : 0 ≤ y ∧ y < 18446744073709551616) (hs : s ≤ 64) :
    bits .or .u64 (x / 2 ^ s) (y * 2 ^ (64 - s) % 18446744073709551616) = ((x.toNat / 2 ^ s + (y.toNat * 2 ^ (64 - s)) % 18446744073709551616 : Nat) : Int) := by
  have h := shl_word (x := y) (y := x) (s := 64 - s) hy hx (by omega)
  rw [show 64 - (64 - s) = s by omega] at h
  have hc : bits .or .u64 (x / 2 ^ s) (y * 2 ^ (64 - s) % 18446744073709551616) = bits .or .u64 (y * 2 ^ (64 - s) % 18446744073709551616) (x / 2 ^ s) := by
    simp only [bits]; rw [BitVec.or_comm]
  rw [hc, h, Nat.add_comm]
theorem shr_val {x d s : Nat} (hs : s ≤ 64) : (x + 18446744073709551616 * d) / 2 ^ s = x / 2 ^ s + d * 2 ^ (64 - s) := by
  have e : (18446744073709551616 : Nat) = 2 ^ s * 2 ^ (64 - s) := by rw [← Nat.pow_add, show s + (64 - s) = 64 by omega]
  rw [e, Nat.mul_assoc, Nat.add_mul_div_left _ _ (Nat.two_pow_pos s), Nat.mul_comm d]
theorem shr_step {a o : List Int} {i s : Nat} (la : lim a) (hi : i < a.length) (hl : o.length = a.length) (hs : s ≤ 64)
    (h : val (o.take i) + 2 ^ (64 * i) * (val (a.drop i) / 2 ^ s) = val a / 2 ^ s) :
    val ((o.set i (((a.getD i 0).toNat / 2 ^ s + ((a.getD (i + 1) 0).toNat * 2 ^ (64 - s)) % 18446744073709551616 : Nat) : Int)).take (i + 1)) + 2 ^ (64 * (i + 1)) * (val (a.drop (i + 1)) / 2 ^ s) = val a / 2 ^ s := by
  rw [val_take_set (by omega), Int.toNat_natCast, p64, ← h, drop_cons hi]
  simp only [val]
  rw [shr_val hs]
  have hy : (val (a.drop (i + 1)) * 2 ^ (64 - s)) % 18446744073709551616 = ((a.getD (i + 1) 0).toNat * 2 ^ (64 - s)) % 18446744073709551616 := by
    have : val (a.drop (i + 1)) % 18446744073709551616 = (a.getD (i + 1) 0).toNat := by
      rw [val_drop a _ la, val_getD a _ la]
    rw [Nat.mul_mod, this, ← Nat.mul_mod_mod]
    rw [Nat.mod_mod]
    rw [Nat.mul_mod, Nat.mod_mod, ← Nat.mul_mod]
  have hd : (val (a.drop (i + 1)) * 2 ^ (64 - s)) / 18446744073709551616 = val (a.drop (i + 1)) / 2 ^ s := by
    have e : (18446744073709551616 : Nat) = 2 ^ s * 2 ^ (64 - s) := by rw [← Nat.pow_add, show s + (64 - s) = 64 by omega]
    rw [e, Nat.mul_div_mul_right _ _ (Nat.two_pow_pos _)]
  have e := Nat.div_add_mod (val (a.drop (i + 1)) * 2 ^ (64 - s)) 18446744073709551616
  rw [hy, hd] at e
  rw [← e, Nat.mul_add, Nat.mul_add, Nat.mul_add]
  have : 2 ^ (64 * i) * (18446744073709551616 * (val (a.drop (i + 1)) / 2 ^ s)) = 18446744073709551616 * 2 ^ (64 * i) * (val (a.drop (i + 1)) / 2 ^ s) := by ac_rfl
  rw [this]
  omega
theorem mod_word {a : List Int} {s : Nat} (la : lim a) (hs : s ≤ 64) : val a % 2 ^ s = (a.getD 0 0).toNat % 2 ^ s := by
  cases a with
  | nil => simp [val]
  | cons x r =>
    simp only [val, List.getD_cons_zero]
    have e : (18446744073709551616 : Nat) = 2 ^ s * 2 ^ (64 - s) := by rw [← Nat.pow_add, show s + (64 - s) = 64 by omega]
    rw [e, Nat.mul_assoc, Nat.add_mul_mod_self_left]
end Go.AM.LN
namespace Go.AM.LN
theorem getD_of_drop {o a : List Int} {i : Nat} (h : o.drop i = a.drop i) (ho : i < o.length) (ha : i < a.length) : o.getD i 0 = a.getD i 0 := by
  rw [drop_cons ho, drop_cons ha] at h
  exact (List.cons.inj h).1
theorem getD_set_self {o : List Int} {i : Nat} (h : i < o.length) (v : Int) : (o.set i v).getD i 0 = v := by simp [List.getD, h]
theorem shr_next {a o : List Int} {i s : Nat} (la : lim a) (hi : i < a.length) (hl : o.length = a.length) (hs : s ≤ 64) (lo : lim o) (hd : o.drop i = a.drop i)
    (h : val (o.take i) + 2 ^ (64 * i) * (val (a.drop i) / 2 ^ s) = val a / 2 ^ s) :
    (o.set i (o.getD i 0 / 2 ^ s)).set i (bits .or .u64 ((o.set i (o.getD i 0 / 2 ^ s)).getD i 0) (a.getD (i + 1) 0 * 2 ^ (64 - s) % 18446744073709551616)) = o.set i (((a.getD i 0).toNat / 2 ^ s + ((a.getD (i + 1) 0).toNat * 2 ^ (64 - s)) % 18446744073709551616 : Nat) : Int) ∧
    (a.length ≤ i + 1 → o.set i (o.getD i 0 / 2 ^ s) = o.set i (((a.getD i 0).toNat / 2 ^ s + ((a.getD (i + 1) 0).toNat * 2 ^ (64 - s)) % 18446744073709551616 : Nat) : Int)) ∧
    (0 ≤ (((a.getD i 0).toNat / 2 ^ s + ((a.getD (i + 1) 0).toNat * 2 ^ (64 - s)) % 18446744073709551616 : Nat) : Int) ∧ (((a.getD i 0).toNat / 2 ^ s + ((a.getD (i + 1) 0).toNat * 2 ^ (64 - s)) % 18446744073709551616 : Nat) : Int) < 18446744073709551616) ∧
    (o.set i (((a.getD i 0).toNat / 2 ^ s + ((a.getD (i + 1) 0).toNat * 2 ^ (64 - s)) % 18446744073709551616 : Nat) : Int)).drop (i + 1) = a.drop (i + 1) := by
  have hg := getD_of_drop hd (by omega) hi
  have h1 := shr_word (x := a.getD i 0) (y := a.getD (i + 1) 0) (s := s) (lim_get la) (lim_get la) hs
  have h2 := or_lim (a.getD i 0 / 2 ^ s) (a.getD (i + 1) 0 * 2 ^ (64 - s) % 18446744073709551616)
  rw [h1] at h2
  refine ⟨?_, fun hle => ?_, h2, ?_⟩
  · rw [List.set_set, getD_set_self (by omega), hg, h1]
  · rw [hg]
    have hx := lim_get la (i := i)
    obtain ⟨x, hx2⟩ := Int.eq_ofNat_of_zero_le hx.1
    rw [getD_out hle, hx2, Int.toNat_zero, Nat.zero_mul, Nat.zero_mod, Nat.add_zero, Int.natCast_ediv, Int.natCast_pow]
    rfl
  · rw [drop_set_succ]; exact drop_succ_of hd
end Go.AM.LN
namespace Go.AM
variable {ty : Ty} {Γ : Gam} {Q : Post} {env : List (Nat × AV)} {mem : List (Nat × Ct × Bool)} {c : Code}
theorem unrP_succ [Lay] {n : Nat} : unrP (ty := ty) (Γ := Γ) c Q (Nat.succ n) .normal env mem = awp ty Γ c (unrP (ty := ty) (Γ := Γ) c Q n) env mem := rfl
theorem unrP_exit [Lay] {n j : Nat} : unrP (ty := ty) (Γ := Γ) c Q n (.exit j) env mem = Q (.exit j) env mem := by cases n <;> rfl
theorem unrP_ret [Lay] {n : Nat} : unrP (ty := ty) (Γ := Γ) c Q n .ret env mem = Q .ret env mem := by cases n <;> rfl
namespace LN
def w4 (n i : Nat) : Int := ((n / 2 ^ (64 * i) % 18446744073709551616 : Nat) : Int)
def V4 (a b c d : Int) : Nat := val [a, b, c, d]
theorem w4_lim (n i : Nat) : 0 ≤ w4 n i ∧ w4 n i < 18446744073709551616 := by unfold w4; omega
theorem V4_lt {a b c d : Int} (ha : 0 ≤ a ∧ a < 18446744073709551616) (hb : 0 ≤ b ∧ b < 18446744073709551616) (hc : 0 ≤ c ∧ c < 18446744073709551616) (hd : 0 ≤ d ∧ d < 18446744073709551616) : V4 a b c d < 2 ^ 256 := by
  have h : lim [a, b, c, d] := by
    intro x hx
    simp only [List.mem_cons, List.not_mem_nil, or_false] at hx
    rcases hx with rfl | rfl | rfl | rfl <;> assumption
  exact val_lt h
theorem lim4 {a b c d : Int} (ha : 0 ≤ a ∧ a < 18446744073709551616) (hb : 0 ≤ b ∧ b < 18446744073709551616) (hc : 0 ≤ c ∧ c < 18446744073709551616) (hd : 0 ≤ d ∧ d < 18446744073709551616) : lim [a, b, c, d] := by
  intro x hx
  simp only [List.mem_cons, List.not_mem_nil, or_false] at hx
  rcases hx with rfl | rfl | rfl | rfl <;> assumption
theorem w4_V4 {a b c d : Int} (ha : 0 ≤ a ∧ a < 18446744073709551616) (hb : 0 ≤ b ∧ b < 18446744073709551616) (hc : 0 ≤ c ∧ c < 18446744073709551616) (hd : 0 ≤ d ∧ d < 18446744073709551616) :
    w4 (V4 a b c d) 0 = a ∧ w4 (V4 a b c d) 1 = b ∧ w4 (V4 a b c d) 2 = c ∧ w4 (V4 a b c d) 3 = d := by
  have h := lim4 ha hb hc hd
  have e : ∀ i, w4 (V4 a b c d) i = (([a, b, c, d].getD i 0).toNat : Int) := fun i => by unfold w4 V4; rw [val_getD _ i h]
  rw [e, e, e, e]
  simp
  omega
theorem V4_w4 {n : Nat} (h : n < 2 ^ 256) : V4 (w4 n 0) (w4 n 1) (w4 n 2) (w4 n 3) = n := by
  unfold V4 w4
  simp only [val, Int.toNat_natCast]
  have e1 : n / 2 ^ (64 * 1) = n / 18446744073709551616 := rfl
  have e2 : n / 2 ^ (64 * 2) = n / 18446744073709551616 / 18446744073709551616 := by rw [Nat.div_div_eq_div_mul]
  have e3 : n / 2 ^ (64 * 3) = n / 18446744073709551616 / 18446744073709551616 / 18446744073709551616 := by rw [Nat.div_div_eq_div_mul, Nat.div_div_eq_div_mul]
  have e0 : n / 2 ^ (64 * 0) = n := by simp
  rw [e0, e1, e2, e3]
  have h' : n < 115792089237316195423570985008687907853269984665640564039457584007913129639936 := h
  omega
theorem and_w4 (x y i : Nat) : AM.bits .and .u64 (w4 x i) (w4 y i) = w4 (x &&& y) i := by
  rw [and_u64 (w4_lim x i) (w4_lim y i)]
  unfold w4
  simp only [Int.toNat_natCast]
  congr 1
  have e : (18446744073709551616 : Nat) = 2 ^ 64 := rfl
  rw [e]
  apply Nat.eq_of_testBit_eq
  intro j
  simp only [Nat.testBit_and, Nat.testBit_mod_two_pow, Nat.testBit_div_two_pow]
  cases decide (j < 64) <;> simp
theorem or_w4 (x y i : Nat) : AM.bits .or .u64 (w4 x i) (w4 y i) = w4 (x ||| y) i := by
  rw [or_u64 (w4_lim x i) (w4_lim y i)]
  unfold w4
  simp only [Int.toNat_natCast]
  congr 1
  have e : (18446744073709551616 : Nat) = 2 ^ 64 := rfl
  rw [e]
  apply Nat.eq_of_testBit_eq
  intro j
  simp only [Nat.testBit_or, Nat.testBit_mod_two_pow, Nat.testBit_div_two_pow]
  cases decide (j < 64) <;> simp
end LN
end Go.AM
namespace Go.AM.LN
theorem lin4 {a0 a1 a2 a3 b0 b1 b2 b3 c0 c1 c2 c3 d0 d1 d2 d3 : Int} (e0 : a0 + 18446744073709551616 * c0 = b0 + d0) (e1 : a1 + 18446744073709551616 * c1 = b1 + c0 + d1) (e2 : a2 + 18446744073709551616 * c2 = b2 + c1 + d2) (e3 : a3 + 18446744073709551616 * c3 = b3 + c2 + d3) :
    (a0 + 18446744073709551616 * (a1 + 18446744073709551616 * (a2 + 18446744073709551616 * a3))) + 115792089237316195423570985008687907853269984665640564039457584007913129639936 * c3 = (b0 + 18446744073709551616 * (b1 + 18446744073709551616 * (b2 + 18446744073709551616 * b3))) + (d0 + 18446744073709551616 * (d1 + 18446744073709551616 * (d2 + 18446744073709551616 * d3))) := by omega
theorem V4_int {a b c d : Int} (ha : 0 ≤ a) (hb : 0 ≤ b) (hc : 0 ≤ c) (hd : 0 ≤ d) : (V4 a b c d : Int) = a + 18446744073709551616 * (b + 18446744073709551616 * (c + 18446744073709551616 * d)) := by
  unfold V4
  simp only [val]
  obtain ⟨x, rfl⟩ := Int.eq_ofNat_of_zero_le ha
  obtain ⟨y, rfl⟩ := Int.eq_ofNat_of_zero_le hb
  obtain ⟨z, rfl⟩ := Int.eq_ofNat_of_zero_le hc
  obtain ⟨t, rfl⟩ := Int.eq_ofNat_of_zero_le hd
  simp only [Int.toNat_natCast]
  omega
theorem sub4 {a0 a1 a2 a3 b0 b1 b2 b3 c0 c1 c2 c3 : Int} (ha0 : 0 ≤ a0 ∧ a0 < 18446744073709551616) (ha1 : 0 ≤ a1 ∧ a1 < 18446744073709551616) (ha2 : 0 ≤ a2 ∧ a2 < 18446744073709551616) (ha3 : 0 ≤ a3 ∧ a3 < 18446744073709551616)
    (hb0 : 0 ≤ b0 ∧ b0 < 18446744073709551616) (hb1 : 0 ≤ b1 ∧ b1 < 18446744073709551616) (hb2 : 0 ≤ b2 ∧ b2 < 18446744073709551616) (hb3 : 0 ≤ b3 ∧ b3 < 18446744073709551616)
    (h0 : (a0 < b0 → c0 = 1) ∧ (¬ a0 < b0 → c0 = 0)) (h1 : (a1 < b1 + c0 → c1 = 1) ∧ (¬ a1 < b1 + c0 → c1 = 0)) (h2 : (a2 < b2 + c1 → c2 = 1) ∧ (¬ a2 < b2 + c1 → c2 = 0)) (h3 : (a3 < b3 + c2 → c3 = 1) ∧ (¬ a3 < b3 + c2 → c3 = 0)) (hle : V4 b0 b1 b2 b3 ≤ V4 a0 a1 a2 a3) :
    (a0 - b0) % 18446744073709551616 = w4 (V4 a0 a1 a2 a3 - V4 b0 b1 b2 b3) 0 ∧ (a1 - b1 - c0) % 18446744073709551616 = w4 (V4 a0 a1 a2 a3 - V4 b0 b1 b2 b3) 1 ∧ (a2 - b2 - c1) % 18446744073709551616 = w4 (V4 a0 a1 a2 a3 - V4 b0 b1 b2 b3) 2 ∧ (a3 - b3 - c2) % 18446744073709551616 = w4 (V4 a0 a1 a2 a3 - V4 b0 b1 b2 b3) 3 ∧ c3 = 0 := by
  obtain ⟨d0, hd0⟩ : ∃ d, d = (a0 - b0) % 18446744073709551616 := ⟨_, rfl⟩
  obtain ⟨d1, hd1⟩ : ∃ d, d = (a1 - b1 - c0) % 18446744073709551616 := ⟨_, rfl⟩
  obtain ⟨d2, hd2⟩ : ∃ d, d = (a2 - b2 - c1) % 18446744073709551616 := ⟨_, rfl⟩
  obtain ⟨d3, hd3⟩ : ∃ d, d = (a3 - b3 - c2) % 18446744073709551616 := ⟨_, rfl⟩
  have e0 : a0 + 18446744073709551616 * c0 = b0 + d0 := by omega
  have e1 : a1 + 18446744073709551616 * c1 = b1 + c0 + d1 := by omega
  have e2 : a2 + 18446744073709551616 * c2 = b2 + c1 + d2 := by omega
  have e3 : a3 + 18446744073709551616 * c3 = b3 + c2 + d3 := by omega
  have r0 : 0 ≤ d0 ∧ d0 < 18446744073709551616 := by omega
  have r1 : 0 ≤ d1 ∧ d1 < 18446744073709551616 := by omega
  have r2 : 0 ≤ d2 ∧ d2 < 18446744073709551616 := by omega
  have r3 : 0 ≤ d3 ∧ d3 < 18446744073709551616 := by omega
  have k3 : c3 = 0 ∨ c3 = 1 := by omega
  rw [← hd0, ← hd1, ← hd2, ← hd3]
  clear hd0 hd1 hd2 hd3 h0 h1 h2 h3
  have hl := lin4 e0 e1 e2 e3
  rw [← V4_int ha0.1 ha1.1 ha2.1 ha3.1, ← V4_int hb0.1 hb1.1 hb2.1 hb3.1, ← V4_int r0.1 r1.1 r2.1 r3.1] at hl
  have hA := V4_lt ha0 ha1 ha2 ha3
  have hD := V4_lt r0 r1 r2 r3
  have e256 : (2 : Nat) ^ 256 = 115792089237316195423570985008687907853269984665640564039457584007913129639936 := rfl
  rw [e256] at hA hD
  have hv : V4 a0 a1 a2 a3 - V4 b0 b1 b2 b3 = V4 d0 d1 d2 d3 ∧ c3 = 0 := by
    generalize V4 a0 a1 a2 a3 = x at *
    generalize V4 b0 b1 b2 b3 = y at *
    generalize V4 d0 d1 d2 d3 = z at *
    clear e0 e1 e2 e3 ha0 ha1 ha2 ha3 hb0 hb1 hb2 hb3 r0 r1 r2 r3
    omega
  rw [hv.1]
  obtain ⟨f0, f1, f2, f3⟩ := w4_V4 r0 r1 r2 r3
  exact ⟨f0.symm, f1.symm, f2.symm, f3.symm, hv.2⟩
theorem ite01 {p : Prop} [Decidable p] : (p → (if p then (1 : Int) else 0) = 1) ∧ (¬ p → (if p then (1 : Int) else 0) = 0) := ⟨fun h => if_pos h, fun h => if_neg h⟩
theorem blen_V4 {a b c d : Int} (ha : 0 ≤ a ∧ a < 18446744073709551616) (hb : 0 ≤ b ∧ b < 18446744073709551616) (hc : 0 ≤ c ∧ c < 18446744073709551616) (hd : 0 ≤ d ∧ d < 18446744073709551616) :
    (¬ d = 0 → blen (V4 a b c d) = 192 + blen d.toNat) ∧ (d = 0 → ¬ c = 0 → blen (V4 a b c d) = 128 + blen c.toNat) ∧ (d = 0 → c = 0 → ¬ b = 0 → blen (V4 a b c d) = 64 + blen b.toNat) ∧ (d = 0 → c = 0 → b = 0 → blen (V4 a b c d) = blen a.toNat) := by
  have l := lim4 ha hb hc hd
  refine ⟨fun h => ?_, fun h1 h => ?_, fun h1 h2 h => ?_, fun h1 h2 h3 => ?_⟩
  · have hs : sz [a, b, c, d] = 4 := by simp [sz, h]
    have := blen_top l (by rw [hs]; omega)
    rw [hs] at this
    exact this
  · subst h1
    have hs : sz [a, b, c, 0] = 3 := by simp [sz, h]
    have := blen_top l (by rw [hs]; omega)
    rw [hs] at this
    exact this
  · subst h1 h2
    have hs : sz [a, b, 0, 0] = 2 := by simp [sz, h]
    have := blen_top l (by rw [hs]; omega)
    rw [hs] at this
    exact this
  · subst h1 h2 h3
    unfold V4; simp [val]
end Go.AM.LN
set_option maxRecDepth 20000
namespace Go.Proofs.AMT
open Go.AM Go.AM.LN
attribute [local congr] bindO_congr bindS_congr bindG_congr awpOps_congr aOne_congr awp_congr aCond_congr awpD_congr dOne_congr keysB_congr nOne_congr thenP_congr blockP_congr Chk_congr Brk_congr
noncomputable def s9 : CSpec := fun ds => match ds with
  | [.v (.agg ⟨[.int .u64 a0, .int .u64 a1, .int .u64 a2, .int .u64 a3]⟩)] => some ((0 ≤ a0 ∧ a0 < 18446744073709551616) ∧ (0 ≤ a1 ∧ a1 < 18446744073709551616) ∧ (0 ≤ a2 ∧ a2 < 18446744073709551616) ∧ (0 ≤ a3 ∧ a3 < 18446744073709551616), .one (.v (.int .i64 (blen (V4 a0 a1 a2 a3)))))
  | _ => none
theorem s9_eq (a0 a1 a2 a3 : Int) : norm s9 [.v (.agg #[.int .u64 a0, .int .u64 a1, .int .u64 a2, .int .u64 a3])] = some ((0 ≤ a0 ∧ a0 < 18446744073709551616) ∧ (0 ≤ a1 ∧ a1 < 18446744073709551616) ∧ (0 ≤ a2 ∧ a2 < 18446744073709551616) ∧ (0 ≤ a3 ∧ a3 < 18446744073709551616), .one (.v (.int .i64 (blen (V4 a0 a1 a2 a3))))) := rfl
noncomputable def G9 : Gam := [(26, .body, norm s26)]
theorem G9_ok : GamOk Tryz.prog G9 := gamOk_cons sound_26 gamOk_nil
theorem k9_26 : lk G9 26 = some (.body, norm s26) := rfl
set_option maxHeartbeats 20000000 in
theorem wk9 (a0 a1 a2 a3 : Int) (hp : (0 ≤ a0 ∧ a0 < 18446744073709551616) ∧ (0 ≤ a1 ∧ a1 < 18446744073709551616) ∧ (0 ≤ a2 ∧ a2 < 18446744073709551616) ∧ (0 ≤ a3 ∧ a3 < 18446744073709551616)) : awp ty G9 (code Tryz.f9) (retP ty Tryz.f9.results.toList (.one (.v (.int .i64 (blen (V4 a0 a1 a2 a3)))))) (entry 0 [.v (.agg #[.int .u64 a0, .int .u64 a1, .int .u64 a2, .int .u64 a3])]) [] := by
  unfold code
  simp only [Tryz.f9, Option.getD_some]
  have hl := blen_V4 hp.1 hp.2.1 hp.2.2.1 hp.2.2.2
  have z0 : a0 = 0 → blen a0.toNat = 0 := fun h => by rw [h]; rfl
  have q0 : blen a0.toNat ≤ 64 := blen_lt.2 (by omega)
  have q1 : blen a1.toNat ≤ 64 := blen_lt.2 (by omega)
  have q2 : blen a2.toNat ≤ 64 := blen_lt.2 (by omega)
  have q3 : blen a3.toNat ≤ 64 := blen_lt.2 (by omega)
  all_goals repeat' (first
    | ((first
       | (with_reducible refine ops_k ?_; intro X hX)
       | (with_reducible refine opsN_k ?_; intro X hX)
       | (with_reducible show awp _ _ _ _ (keepL _ _) _)
       | with_reducible refine awp_cond_k ?_
       | (with_reducible refine Brk_i ?_ ?_ <;> intro hb <;> (try simp only [hb]) <;> have hq := hb <;> try simp only [decide_eq_true_eq, decide_eq_false_iff_not, gt_iff_lt, ge_iff_le, Int.not_lt, Int.not_le, beq_iff_eq, beq_eq_false_iff_ne, Bool.not_eq_true', Bool.not_eq_false', Bool.and_eq_true, Bool.or_eq_true, Bool.and_eq_false_imp, Bool.or_eq_false_iff, ne_eq, Classical.not_not] at hq)
       | with_reducible refine retP_ret_i ?_
       | with_reducible refine retP_normal_i ?_
       | (with_reducible (show bindG _ _ _ _ _); simp only [hall])) <;> try simp only [Go.AM.S1, Go.AM.S2, Go.AM.S3, Go.AM.S4, Go.AM.S5, Go.AM.S6, Go.AM.S7, Go.AM.S8, Go.AM.S9, Nat.reduceAdd, Nat.reduceMul, Nat.reduceSub, ↓reduceIte, Nat.reduceEqDiff, Nat.reduceLT, Nat.reduceLeDiff, reduceCtorEq, Int.reduceBEq, Int.reduceBNe, Nat.reduceBEq, Int.reduceEq, Int.reduceToNat, Int.reduceLE, Int.reduceLT, Nat.reduceDiv, Int.reduceAdd, Int.reduceSub, Int.reduceMul, Int.reduceNeg, Int.reduceGT, Int.reduceGE, Nat.reduceMod, k9_26, s26_eq, ty_3, ty_22, ty_23, Int.mul_zero])
    | (with_reducible refine hX _ _ ?_; clear hX X)
    | (with_reducible refine ops_nil_i ?_; try clear hall all)
    | (with_reducible refine opsN_nil_i ?_; try clear hall all)
    | (with_reducible refine hK _ _ ?_; clear hK K)
    | with_reducible refine thenP_normal_i ?_
    | (with_reducible refine zzr6 _ _ ?_; try clear zzr6 Kzzr6)
    | (with_reducible refine zzsr1 _ _ ?_; try clear zzsr1 Kzzsr1)
    | (with_reducible refine zzb1 _ _ ?_; try clear zzb1 Kzzb1)
    | (with_reducible refine zzr5 _ _ ?_; try clear zzr5 Kzzr5)
    | (with_reducible refine zzr4 _ _ ?_; try clear zzr4 Kzzr4)
    | (with_reducible refine zzsr2 _ _ ?_; try clear zzsr2 Kzzsr2)
    | (with_reducible refine zzr2 _ _ ?_; try clear zzr2 Kzzr2)
    | (with_reducible refine zzr1 _ _ ?_; try clear zzr1 Kzzr1)
    | (with_reducible refine zzr0 _ _ ?_; try clear zzr0 Kzzr0)
    | (with_reducible refine awp_unroll (Nat.succ (Nat.succ (Nat.succ (Nat.succ (Nat.succ Nat.zero))))) ?_)
    | (with_reducible refine awp_seq_l (a := .region 6 _ _) [2] ?_; intro Kzzr6 zzr6)
    | (with_reducible refine awp_seq_l (a := .seq (.region 1 _ _) _) [] ?_; intro Kzzsr1 zzsr1)
    | (with_reducible refine awp_seq_l (a := .block 1 _) [1, 3] ?_; intro Kzzb1 zzb1)
    | (with_reducible refine awp_seq_l (a := .region 5 _ _) [2] ?_; intro Kzzr5 zzr5)
    | (with_reducible refine awp_seq_l (a := .region 4 _ _) [1, 3, 14] ?_; intro Kzzr4 zzr4)
    | (with_reducible refine awp_seq_l (a := .seq (.region 2 _ _) _) [1, 3] ?_; intro Kzzsr2 zzsr2)
    | (with_reducible refine awp_seq_l (a := .region 2 _ _) [1, 3, 8] ?_; intro Kzzr2 zzr2)
    | (with_reducible refine awp_seq_l (a := .region 1 _ _) [1, 3] ?_; intro Kzzr1 zzr1)
    | (with_reducible refine awp_seq_l (a := .region 0 _ _) [1] ?_; intro Kzzr0 zzr0)
    | (with_reducible refine awp_seq_k ?_; intro K hK)
    | (with_reducible refine awp_region_a ?_; intro all hall K hK)
    | (with_reducible refine awp_draw_n ?_ ?_; kernel_rfl; intro all hall K hK)
    | (with_reducible refine Chk_i ?_ ?_)
    | (with_reducible refine keysC_i ?_; kernel_rfl)
    | (with_reducible first | refine awp_block_i ?_ | refine awp_skip_i ?_ | refine awp_ret_i ?_ | refine awp_exit_i ?_ | refine thenP_ret_i ?_ | refine thenP_exit_i ?_ | refine lpP_ret_i ?_ | refine lpP_exit_i ?_ | refine unrP_succ_i ?_ | refine unrP_ret_i ?_ | refine unrP_exit_i ?_ | refine blockP_normal_i ?_ | refine blockP_ret_i ?_)
    | (with_reducible refine blockP_exit_i ?_; simp only [↓reduceIte, Nat.reduceEqDiff])
    | with_reducible refine lpP_normal_i ?_)
  all_goals (try clear zzr0; try clear Kzzr0)
  all_goals (try clear zzr1; try clear Kzzr1)
  all_goals (try clear zzr2; try clear Kzzr2)
  all_goals (try clear zzsr2; try clear Kzzsr2)
  all_goals (try clear zzr4; try clear Kzzr4)
  all_goals (try clear zzr5; try clear Kzzr5)
  all_goals (try clear zzb1; try clear Kzzb1)
  all_goals (try clear zzsr1; try clear Kzzsr1)
  all_goals (try clear zzr6; try clear Kzzr6)
  all_goals (try simp only [inR])
  all_goals first
    | omega
    | (refine congrArg _ ?_; omega)
theorem sound_9 : Sound Tryz.prog 9 .body (norm s9) := by
  refine sound_norm (sound_body Tryz.func9 (show Tryz.f9.body = some (code Tryz.f9) from rfl) (by kernel_rfl) tysOk G9_ok (drawOk_ok (by kernel_rfl) tysOk G9_ok) (by kernel_rfl) fun ds p r hs hp => ?_)
  unfold s9 at hs
  split at hs
  · cases hs; exact ⟨Nat.le_of_ble_eq_true (by kernel_rfl), wk9 _ _ _ _ hp⟩
  · cases hs
end Go.Proofs.AMT
namespace Go.AM.LN
theorem bit_word {l : List Int} {i s : Nat} (hl : lim l) (hs : s < 64) : AM.bits .and .u64 (l.getD i 0 / 2 ^ s) 1 = ((val l / 2 ^ (64 * i + s) % 2 : Nat) : Int) := by
  have hx := lim_get hl (i := i)
  have hv := val_getD l i hl
  obtain ⟨x, hx2⟩ := Int.eq_ofNat_of_zero_le hx.1
  rw [hx2, Int.toNat_natCast] at hv
  rw [hx2] at hx ⊢
  have e1 : (x : Int) / 2 ^ s = ((x / 2 ^ s : Nat) : Int) := by rw [Int.natCast_ediv, Int.natCast_pow]; rfl
  have hle : x / 2 ^ s ≤ x := Nat.div_le_self _ _
  have hq : x / 2 ^ s < 18446744073709551616 := Nat.lt_of_le_of_lt hle (by omega)
  have h1 := and_mask (a := ((x / 2 ^ s : Nat) : Int)) 1 (nat_lim hq) (by omega)
  rw [show (2 : Int) ^ 1 - 1 = 1 by decide, show (2 : Int) ^ 1 = 2 by decide] at h1
  rw [e1, h1, Nat.pow_add, ← Nat.div_div_eq_div_mul]
  have hD := Nat.div_add_mod (val l / 2 ^ (64 * i)) 18446744073709551616
  rw [hv] at hD
  rw [← hD, Nat.add_comm, shr_val (by omega), show 64 - s = (63 - s) + 1 by omega, Nat.pow_succ, ← Nat.mul_assoc]
  omega
theorem bit4 {a b c d : Int} {s : Nat} (ha : 0 ≤ a ∧ a < 18446744073709551616) (hb : 0 ≤ b ∧ b < 18446744073709551616) (hc : 0 ≤ c ∧ c < 18446744073709551616) (hd : 0 ≤ d ∧ d < 18446744073709551616) (hs : s < 64) :
    AM.bits .and .u64 (a / 2 ^ s) 1 = ((V4 a b c d / 2 ^ (64 * 0 + s) % 2 : Nat) : Int) ∧ AM.bits .and .u64 (b / 2 ^ s) 1 = ((V4 a b c d / 2 ^ (64 * 1 + s) % 2 : Nat) : Int) ∧ AM.bits .and .u64 (c / 2 ^ s) 1 = ((V4 a b c d / 2 ^ (64 * 2 + s) % 2 : Nat) : Int) ∧ AM.bits .and .u64 (d / 2 ^ s) 1 = ((V4 a b c d / 2 ^ (64 * 3 + s) % 2 : Nat) : Int) := by
  have h := lim4 ha hb hc hd
  unfold V4
  have h0 := bit_word (i := 0) h hs
  have h1 := bit_word (i := 1) h hs
  have h2 := bit_word (i := 2) h hs
  have h3 := bit_word (i := 3) h hs
  simp only [List.getD_cons_zero, List.getD_cons_succ] at h0 h1 h2 h3
  exact ⟨h0, h1, h2, h3⟩
theorem V4_mul (a b c d p : Nat) : V4 a b c d * p = a * p + 18446744073709551616 * (b * p + 18446744073709551616 * (c * p + 18446744073709551616 * (d * p))) := by
  unfold V4
  simp only [val, Int.toNat_natCast, Nat.mul_zero, Nat.add_zero]
  simp only [Nat.add_mul, Nat.mul_assoc]
theorem V4_nat (a b c d : Nat) : V4 a b c d = a + 18446744073709551616 * (b + 18446744073709551616 * (c + 18446744073709551616 * d)) := by
  have := V4_mul a b c d 1
  simpa using this
theorem two256 : (2 : Nat) ^ 256 = 115792089237316195423570985008687907853269984665640564039457584007913129639936 := rfl
/-- What the words of a number shifted to the left are. -/
theorem shl4 {a b c d s w : Nat} (ha : a < 18446744073709551616) (hb : b < 18446744073709551616) (hc : c < 18446744073709551616) (hd : d < 18446744073709551616) (hs : s < 64) {o0 o1 o2 o3 : Nat}
    (ho : (w = 0 ∧ o0 = a * 2 ^ s % 18446744073709551616 ∧ o1 = b * 2 ^ s % 18446744073709551616 + a / 2 ^ (64 - s) ∧ o2 = c * 2 ^ s % 18446744073709551616 + b / 2 ^ (64 - s) ∧ o3 = d * 2 ^ s % 18446744073709551616 + c / 2 ^ (64 - s)) ∨
      (w = 1 ∧ o0 = 0 ∧ o1 = a * 2 ^ s % 18446744073709551616 ∧ o2 = b * 2 ^ s % 18446744073709551616 + a / 2 ^ (64 - s) ∧ o3 = c * 2 ^ s % 18446744073709551616 + b / 2 ^ (64 - s)) ∨
      (w = 2 ∧ o0 = 0 ∧ o1 = 0 ∧ o2 = a * 2 ^ s % 18446744073709551616 ∧ o3 = b * 2 ^ s % 18446744073709551616 + a / 2 ^ (64 - s)) ∨
      (w = 3 ∧ o0 = 0 ∧ o1 = 0 ∧ o2 = 0 ∧ o3 = a * 2 ^ s % 18446744073709551616) ∨ (4 ≤ w ∧ o0 = 0 ∧ o1 = 0 ∧ o2 = 0 ∧ o3 = 0)) :
    (V4 a b c d * 2 ^ (64 * w + s)) % 2 ^ 256 = V4 o0 o1 o2 o3 ∧ o0 < 18446744073709551616 ∧ o1 < 18446744073709551616 ∧ o2 < 18446744073709551616 ∧ o3 < 18446744073709551616 := by
  have ea := mul_mod_div ha (show s ≤ 64 by omega)
  have eb := mul_mod_div hb (show s ≤ 64 by omega)
  have ec := mul_mod_div hc (show s ≤ 64 by omega)
  have ed := mul_mod_div hd (show s ≤ 64 by omega)
  have la : a * 2 ^ s % 18446744073709551616 + (2 ^ s - 1) < 18446744073709551616 ∧ b * 2 ^ s % 18446744073709551616 + (2 ^ s - 1) < 18446744073709551616 ∧ c * 2 ^ s % 18446744073709551616 + (2 ^ s - 1) < 18446744073709551616 ∧ d * 2 ^ s % 18446744073709551616 + (2 ^ s - 1) < 18446744073709551616 := by
    have key : ∀ x : Nat, x * 2 ^ s % 18446744073709551616 + (2 ^ s - 1) < 18446744073709551616 := fun x => by
      have e : (18446744073709551616 : Nat) = 2 ^ (64 - s) * 2 ^ s := by rw [← Nat.pow_add, show 64 - s + s = 64 by omega]
      have h1 : x * 2 ^ s % 18446744073709551616 = x % 2 ^ (64 - s) * 2 ^ s := by rw [e, Nat.mul_mod_mul_right]
      have h2 : (x % 2 ^ (64 - s) + 1) * 2 ^ s ≤ 2 ^ (64 - s) * 2 ^ s := Nat.mul_le_mul_right _ (Nat.mod_lt _ (Nat.two_pow_pos _))
      rw [← e, Nat.add_mul, ← h1] at h2
      have := Nat.two_pow_pos s
      omega
    exact ⟨key a, key b, key c, key d⟩
  have lb := hi_lt ha (show s ≤ 64 by omega)
  have lc := hi_lt hb (show s ≤ 64 by omega)
  have ld := hi_lt hc (show s ≤ 64 by omega)
  have hm := V4_mul a b c d (2 ^ s)
  rw [Nat.pow_add, Nat.mul_comm (2 ^ (64 * w)), ← Nat.mul_assoc, hm, two256, V4_nat]
  have hp := Nat.two_pow_pos s
  generalize a * 2 ^ s % 18446744073709551616 = ma at *
  generalize b * 2 ^ s % 18446744073709551616 = mb at *
  generalize c * 2 ^ s % 18446744073709551616 = mc at *
  generalize d * 2 ^ s % 18446744073709551616 = md at *
  generalize a / 2 ^ (64 - s) = xa at *
  generalize b / 2 ^ (64 - s) = xb at *
  generalize c / 2 ^ (64 - s) = xc at *
  generalize d / 2 ^ (64 - s) = xd at *
  rw [← ea, ← eb, ← ec, ← ed]
  clear ea eb ec ed hm ha hb hc hd
  generalize 2 ^ s = p at *
  rcases ho with ⟨rfl, rfl, rfl, rfl, rfl⟩ | ⟨rfl, rfl, rfl, rfl, rfl⟩ | ⟨rfl, rfl, rfl, rfl, rfl⟩ | ⟨rfl, rfl, rfl, rfl, rfl⟩ | ⟨hw, rfl, rfl, rfl, rfl⟩
  · rw [show (2 : Nat) ^ (64 * 0) = 1 from rfl]; omega
  · rw [show (2 : Nat) ^ (64 * 1) = 18446744073709551616 from rfl]; omega
  · rw [show (2 : Nat) ^ (64 * 2) = 340282366920938463463374607431768211456 from rfl]; omega
  · rw [show (2 : Nat) ^ (64 * 3) = 6277101735386680763835789423207666416102355444464034512896 from rfl]; omega
  · obtain ⟨j, rfl⟩ : ∃ j, w = 4 + j := ⟨w - 4, by omega⟩
    rw [show 64 * (4 + j) = 256 + 64 * j by omega, Nat.pow_add, two256, Nat.mul_comm _ (115792089237316195423570985008687907853269984665640564039457584007913129639936 * _), Nat.mul_assoc, Nat.mul_mod_right]
    omega
/-- What the words of a number shifted to the right are. -/
theorem shr4 {a b c d s w : Nat} (ha : a < 18446744073709551616) (hb : b < 18446744073709551616) (hc : c < 18446744073709551616) (hd : d < 18446744073709551616) (hs : s < 64) {o0 o1 o2 o3 : Nat}
    (ho : (w = 0 ∧ o0 = a / 2 ^ s + b * 2 ^ (64 - s) % 18446744073709551616 ∧ o1 = b / 2 ^ s + c * 2 ^ (64 - s) % 18446744073709551616 ∧ o2 = c / 2 ^ s + d * 2 ^ (64 - s) % 18446744073709551616 ∧ o3 = d / 2 ^ s) ∨
      (w = 1 ∧ o0 = b / 2 ^ s + c * 2 ^ (64 - s) % 18446744073709551616 ∧ o1 = c / 2 ^ s + d * 2 ^ (64 - s) % 18446744073709551616 ∧ o2 = d / 2 ^ s ∧ o3 = 0) ∨
      (w = 2 ∧ o0 = c / 2 ^ s + d * 2 ^ (64 - s) % 18446744073709551616 ∧ o1 = d / 2 ^ s ∧ o2 = 0 ∧ o3 = 0) ∨
      (w = 3 ∧ o0 = d / 2 ^ s ∧ o1 = 0 ∧ o2 = 0 ∧ o3 = 0) ∨ (4 ≤ w ∧ o0 = 0 ∧ o1 = 0 ∧ o2 = 0 ∧ o3 = 0)) :
    V4 a b c d / 2 ^ (64 * w + s) = V4 o0 o1 o2 o3 := by
  have key : ∀ x : Nat, x * 2 ^ (64 - s) % 18446744073709551616 + 18446744073709551616 * (x / 2 ^ s) = x * 2 ^ (64 - s) := fun x => by
    have e : (18446744073709551616 : Nat) = 2 ^ s * 2 ^ (64 - s) := by rw [← Nat.pow_add, show s + (64 - s) = 64 by omega]
    have h1 : x * 2 ^ (64 - s) / 18446744073709551616 = x / 2 ^ s := by rw [e, Nat.mul_div_mul_right _ _ (Nat.two_pow_pos _)]
    have := Nat.div_add_mod (x * 2 ^ (64 - s)) 18446744073709551616
    omega
  have kb := key b
  have kc := key c
  have kd := key d
  rw [Nat.pow_add, ← Nat.div_div_eq_div_mul, V4_nat, V4_nat]
  have s0 : ∀ x y z t : Nat, (x + 18446744073709551616 * (y + 18446744073709551616 * (z + 18446744073709551616 * t))) / 2 ^ s = x / 2 ^ s + (y * 2 ^ (64 - s) + 18446744073709551616 * (z * 2 ^ (64 - s) + 18446744073709551616 * (t * 2 ^ (64 - s)))) := fun x y z t => by
    rw [shr_val (by omega)]
    simp only [Nat.add_mul, Nat.mul_assoc]
  rcases ho with ⟨rfl, rfl, rfl, rfl, rfl⟩ | ⟨rfl, rfl, rfl, rfl, rfl⟩ | ⟨rfl, rfl, rfl, rfl, rfl⟩ | ⟨rfl, rfl, rfl, rfl, rfl⟩ | ⟨hw, rfl, rfl, rfl, rfl⟩
  · rw [show (2 : Nat) ^ (64 * 0) = 1 from rfl, Nat.div_one, s0]; omega
  · rw [show (2 : Nat) ^ (64 * 1) = 18446744073709551616 from rfl, show (a + 18446744073709551616 * (b + 18446744073709551616 * (c + 18446744073709551616 * d))) / 18446744073709551616 = b + 18446744073709551616 * (c + 18446744073709551616 * (d + 18446744073709551616 * 0)) by omega, s0]; omega
  · rw [show (2 : Nat) ^ (64 * 2) = 340282366920938463463374607431768211456 from rfl, show (a + 18446744073709551616 * (b + 18446744073709551616 * (c + 18446744073709551616 * d))) / 340282366920938463463374607431768211456 = c + 18446744073709551616 * (d + 18446744073709551616 * (0 + 18446744073709551616 * 0)) by omega, s0]; omega
  · rw [show (2 : Nat) ^ (64 * 3) = 6277101735386680763835789423207666416102355444464034512896 from rfl, show (a + 18446744073709551616 * (b + 18446744073709551616 * (c + 18446744073709551616 * d))) / 6277101735386680763835789423207666416102355444464034512896 = d + 18446744073709551616 * (0 + 18446744073709551616 * (0 + 18446744073709551616 * 0)) by omega, s0]; omega
  · have : a + 18446744073709551616 * (b + 18446744073709551616 * (c + 18446744073709551616 * d)) < 2 ^ (64 * w) := by
      refine Nat.lt_of_lt_of_le (m := 2 ^ 256) ?_ (Nat.pow_le_pow_right (by omega) (by omega))
      rw [two256]; omega
    rw [Nat.div_eq_of_lt this]
    simp
end Go.AM.LN
namespace Go.AM.LN
theorem castShl (a s : Nat) : (a : Int) * 2 ^ s % 18446744073709551616 = ((a * 2 ^ s % 18446744073709551616 : Nat) : Int) := by
  rw [Int.natCast_emod, Int.natCast_mul, Int.natCast_pow]; rfl
theorem castShr (a s : Nat) : (a : Int) / 2 ^ s = ((a / 2 ^ s : Nat) : Int) := by
  rw [Int.natCast_ediv, Int.natCast_pow]; rfl
theorem shl_wordN {a b s : Nat} (ha : a < 18446744073709551616) (hb : b < 18446744073709551616) (hs : s < 64) : AM.bits .or .u64 ((b * 2 ^ s % 18446744073709551616 : Nat) : Int) ((a / 2 ^ (64 - s) : Nat) : Int) = ((b * 2 ^ s % 18446744073709551616 + a / 2 ^ (64 - s) : Nat) : Int) := by
  have := shl_word (x := b) (y := a) (s := s) ⟨by omega, by omega⟩ ⟨by omega, by omega⟩ (by omega)
  rw [castShl, castShr] at this
  simpa using this
theorem shr_wordN {a b s : Nat} (ha : a < 18446744073709551616) (hb : b < 18446744073709551616) (hs : s < 64) : AM.bits .or .u64 ((a / 2 ^ s : Nat) : Int) ((b * 2 ^ (64 - s) % 18446744073709551616 : Nat) : Int) = ((a / 2 ^ s + b * 2 ^ (64 - s) % 18446744073709551616 : Nat) : Int) := by
  have := shr_word (x := a) (y := b) (s := s) ⟨by omega, by omega⟩ ⟨by omega, by omega⟩ (by omega)
  rw [castShl, castShr] at this
  simpa using this
theorem hi0 {a s : Nat} (ha : a < 18446744073709551616) (hs : s = 0) : a / 2 ^ (64 - s) = 0 := by
  subst hs; exact Nat.div_eq_of_lt ha
theorem lo0 {a s : Nat} (hs : s = 0) : a * 2 ^ (64 - s) % 18446744073709551616 = 0 := by
  subst hs; rw [show (2 : Nat) ^ (64 - 0) = 18446744073709551616 from rfl]; exact Nat.mul_mod_left _ _
theorem w4_of {X o0 o1 o2 o3 : Nat} (h : X = V4 o0 o1 o2 o3) (h0 : o0 < 18446744073709551616) (h1 : o1 < 18446744073709551616) (h2 : o2 < 18446744073709551616) (h3 : o3 < 18446744073709551616) : (o0 : Int) = w4 X 0 ∧ (o1 : Int) = w4 X 1 ∧ (o2 : Int) = w4 X 2 ∧ (o3 : Int) = w4 X 3 := by
  subst h
  have f := w4_V4 (nat_lim h0) (nat_lim h1) (nat_lim h2) (nat_lim h3)
  exact ⟨f.1.symm, f.2.1.symm, f.2.2.1.symm, f.2.2.2.symm⟩
theorem agg4 {a b c d x y z t : Int} (h : a = x ∧ b = y ∧ c = z ∧ d = t) : Value.agg #[.int .u64 a, .int .u64 b, .int .u64 c, .int .u64 d] = Value.agg #[.int .u64 x, .int .u64 y, .int .u64 z, .int .u64 t] := by
  obtain ⟨rfl, rfl, rfl, rfl⟩ := h; rfl
theorem shl4w {a b c d s w k : Nat} (hk : k = 64 * w + s) (ha : a < 18446744073709551616) (hb : b < 18446744073709551616) (hc : c < 18446744073709551616) (hd : d < 18446744073709551616) (hs : s < 64) {o0 o1 o2 o3 : Nat}
    (ho : (w = 0 ∧ o0 = a * 2 ^ s % 18446744073709551616 ∧ o1 = b * 2 ^ s % 18446744073709551616 + a / 2 ^ (64 - s) ∧ o2 = c * 2 ^ s % 18446744073709551616 + b / 2 ^ (64 - s) ∧ o3 = d * 2 ^ s % 18446744073709551616 + c / 2 ^ (64 - s)) ∨
      (w = 1 ∧ o0 = 0 ∧ o1 = a * 2 ^ s % 18446744073709551616 ∧ o2 = b * 2 ^ s % 18446744073709551616 + a / 2 ^ (64 - s) ∧ o3 = c * 2 ^ s % 18446744073709551616 + b / 2 ^ (64 - s)) ∨
      (w = 2 ∧ o0 = 0 ∧ o1 = 0 ∧ o2 = a * 2 ^ s % 18446744073709551616 ∧ o3 = b * 2 ^ s % 18446744073709551616 + a / 2 ^ (64 - s)) ∨
      (w = 3 ∧ o0 = 0 ∧ o1 = 0 ∧ o2 = 0 ∧ o3 = a * 2 ^ s % 18446744073709551616) ∨ (4 ≤ w ∧ o0 = 0 ∧ o1 = 0 ∧ o2 = 0 ∧ o3 = 0)) :
    (o0 : Int) = w4 (V4 a b c d * 2 ^ k % 2 ^ 256) 0 ∧ (o1 : Int) = w4 (V4 a b c d * 2 ^ k % 2 ^ 256) 1 ∧ (o2 : Int) = w4 (V4 a b c d * 2 ^ k % 2 ^ 256) 2 ∧ (o3 : Int) = w4 (V4 a b c d * 2 ^ k % 2 ^ 256) 3 := by
  subst hk
  have h := shl4 ha hb hc hd hs ho
  exact w4_of h.1 h.2.1 h.2.2.1 h.2.2.2.1 h.2.2.2.2
end Go.AM.LN
namespace Go.AM.LN
theorem shr_lt {a b s : Nat} (ha : a < 18446744073709551616) (hb : b < 18446744073709551616) (hs : s < 64) : a / 2 ^ s + b * 2 ^ (64 - s) % 18446744073709551616 < 18446744073709551616 := by
  have h1 := shr_wordN ha hb hs
  have h2 := or_lim ((a / 2 ^ s : Nat) : Int) ((b * 2 ^ (64 - s) % 18446744073709551616 : Nat) : Int)
  rw [h1] at h2
  omega
theorem div_lt {a s : Nat} (ha : a < 18446744073709551616) : a / 2 ^ s < 18446744073709551616 := Nat.lt_of_le_of_lt (Nat.div_le_self _ _) ha
theorem shr4w {a b c d s w k : Nat} (hk : k = 64 * w + s) (ha : a < 18446744073709551616) (hb : b < 18446744073709551616) (hc : c < 18446744073709551616) (hd : d < 18446744073709551616) (hs : s < 64) {o0 o1 o2 o3 : Nat}
    (ho : (w = 0 ∧ o0 = a / 2 ^ s + b * 2 ^ (64 - s) % 18446744073709551616 ∧ o1 = b / 2 ^ s + c * 2 ^ (64 - s) % 18446744073709551616 ∧ o2 = c / 2 ^ s + d * 2 ^ (64 - s) % 18446744073709551616 ∧ o3 = d / 2 ^ s) ∨
      (w = 1 ∧ o0 = b / 2 ^ s + c * 2 ^ (64 - s) % 18446744073709551616 ∧ o1 = c / 2 ^ s + d * 2 ^ (64 - s) % 18446744073709551616 ∧ o2 = d / 2 ^ s ∧ o3 = 0) ∨
      (w = 2 ∧ o0 = c / 2 ^ s + d * 2 ^ (64 - s) % 18446744073709551616 ∧ o1 = d / 2 ^ s ∧ o2 = 0 ∧ o3 = 0) ∨
      (w = 3 ∧ o0 = d / 2 ^ s ∧ o1 = 0 ∧ o2 = 0 ∧ o3 = 0) ∨ (4 ≤ w ∧ o0 = 0 ∧ o1 = 0 ∧ o2 = 0 ∧ o3 = 0)) :
    (o0 : Int) = w4 (V4 a b c d / 2 ^ k) 0 ∧ (o1 : Int) = w4 (V4 a b c d / 2 ^ k) 1 ∧ (o2 : Int) = w4 (V4 a b c d / 2 ^ k) 2 ∧ (o3 : Int) = w4 (V4 a b c d / 2 ^ k) 3 := by
  subst hk
  have h := shr4 ha hb hc hd hs ho
  have l1 := shr_lt ha hb hs
  have l2 := shr_lt hb hc hs
  have l3 := shr_lt hc hd hs
  have l4 := div_lt (s := s) hd
  rcases ho with ⟨_, rfl, rfl, rfl, rfl⟩ | ⟨_, rfl, rfl, rfl, rfl⟩ | ⟨_, rfl, rfl, rfl, rfl⟩ | ⟨_, rfl, rfl, rfl, rfl⟩ | ⟨_, rfl, rfl, rfl, rfl⟩
  · exact w4_of h l1 l2 l3 l4
  · exact w4_of h l2 l3 l4 (by omega)
  · exact w4_of h l3 l4 (by omega) (by omega)
  · exact w4_of h l4 (by omega) (by omega) (by omega)
  · exact w4_of h (by omega) (by omega) (by omega) (by omega)
end Go.AM.LN
namespace Go.AM.LN
theorem V4_limbs {X : Nat} (h : X < 2 ^ 256) : V4 ((limbs X).getD 0 0) ((limbs X).getD 1 0) ((limbs X).getD 2 0) ((limbs X).getD 3 0) = X := by
  have e : ∀ i, (limbs X).getD i 0 = w4 X i := fun i => by
    have h1 := val_getD (limbs X) i (lim_limbs X)
    rw [val_limbs] at h1
    have h2 := lim_get (lim_limbs X) (i := i)
    unfold w4
    omega
  rw [e, e, e, e]
  exact V4_w4 h
end Go.AM.LN
namespace Go.AM.LN
/-- Knuth's half step: what the guess is at first. -/
theorem kn_init {y1 y0 u n : Nat} (hy : 2147483648 ≤ y1) (h0 : y0 < 4294967296) (hn : n < 4294967296) (hu : u < y1 * 4294967296 + y0) :
    (u * 4294967296 + n) / (y1 * 4294967296 + y0) ≤ u / y1 ∧ u / y1 ≤ 4294967297 ∧ u = u / y1 * y1 + u % y1 ∧ u % y1 < y1 := by
  have hm : u % y1 < y1 := Nat.mod_lt _ (by omega)
  have he : u = u / y1 * y1 + u % y1 := by rw [Nat.mul_comm]; exact (Nat.div_add_mod u y1).symm
  refine ⟨?_, ?_, he, hm⟩
  · generalize u / y1 = q at *
    generalize u % y1 = r at *
    refine Nat.le_of_lt_succ ((Nat.div_lt_iff_lt_mul (by omega)).2 ?_)
    have h1 : u + 1 ≤ (q + 1) * y1 := by grind
    have h2 : (q + 1) * (y1 * 4294967296 + y0) = (q + 1) * y1 * 4294967296 + (q + 1) * y0 := by grind
    rw [Nat.succ_eq_add_one, h2]
    omega
  · refine Nat.le_of_lt_succ ((Nat.div_lt_iff_lt_mul (by omega)).2 ?_)
    omega
theorem kn_prod {q y0 : Nat} (h0 : y0 < 4294967296) (hq : q ≤ 4294967297) : q * y0 < 18446744073709551616 := by
  have : q * y0 ≤ 4294967297 * y0 := Nat.mul_le_mul_right _ hq
  omega
/-- The test holds: one less will do. -/
theorem kn_dec {y1 y0 u n q r : Nat} (hy : 2147483648 ≤ y1) (h0 : y0 < 4294967296) (hn : n < 4294967296) (hu : u < y1 * 4294967296 + y0) (he : u = q * y1 + r)
    (ht : 4294967296 ≤ q ∨ 4294967296 * r + n < q * y0) (hQ : (u * 4294967296 + n) / (y1 * 4294967296 + y0) ≤ q) :
    (u * 4294967296 + n) / (y1 * 4294967296 + y0) ≤ q - 1 ∧ 1 ≤ q ∧ u = (q - 1) * y1 + (r + y1) := by
  have h1 : (u * 4294967296 + n) / (y1 * 4294967296 + y0) < q := by
    rcases ht with ht | ht
    · refine Nat.lt_of_lt_of_le ((Nat.div_lt_iff_lt_mul (by omega)).2 ?_) ht
      omega
    · refine (Nat.div_lt_iff_lt_mul (by omega)).2 ?_
      have : q * (y1 * 4294967296 + y0) = q * y1 * 4294967296 + q * y0 := by grind
      omega
  generalize (u * 4294967296 + n) / (y1 * 4294967296 + y0) = X at *
  refine ⟨by omega, by omega, ?_⟩
  have hq1 : 1 ≤ q := by omega
  obtain ⟨p, rfl⟩ : ∃ p, q = p + 1 := ⟨q - 1, by omega⟩
  rw [he, Nat.add_sub_cancel]
  grind
/-- The rest has grown great. -/
theorem kn_brk {y1 y0 u n q r : Nat} (hy : 2147483648 ≤ y1) (h0 : y0 < 4294967296) (he : u = q * y1 + r) (hq : q ≤ 4294967296) (hr : 4294967296 ≤ r)
    (hQ : (u * 4294967296 + n) / (y1 * 4294967296 + y0) ≤ q) : (u * 4294967296 + n) / (y1 * 4294967296 + y0) = q := by
  refine Nat.le_antisymm hQ ((Nat.le_div_iff_mul_le (by omega)).2 ?_)
  have h1 : q * (y1 * 4294967296 + y0) = q * y1 * 4294967296 + q * y0 := by grind
  have h2 : q * y0 ≤ 4294967296 * y0 := Nat.mul_le_mul_right _ hq
  omega
/-- The test fails. -/
theorem kn_fin {y1 y0 u n q r : Nat} (hy : 2147483648 ≤ y1) (he : u = q * y1 + r) (ht : q * y0 ≤ 4294967296 * r + n)
    (hQ : (u * 4294967296 + n) / (y1 * 4294967296 + y0) ≤ q) : (u * 4294967296 + n) / (y1 * 4294967296 + y0) = q := by
  refine Nat.le_antisymm hQ ((Nat.le_div_iff_mul_le (by omega)).2 ?_)
  have h1 : q * (y1 * 4294967296 + y0) = q * y1 * 4294967296 + q * y0 := by grind
  omega
/-- What is left behind a half step. -/
theorem kn_rest {Y u n q : Nat} (hY : 0 < Y) (hq : (u * 4294967296 + n) / Y = q) : u * 4294967296 + n = q * Y + (u * 4294967296 + n) % Y ∧ (u * 4294967296 + n) % Y < Y := by
  subst hq
  exact ⟨by rw [Nat.mul_comm ((u * 4294967296 + n) / Y)]; exact (Nat.div_add_mod _ _).symm, Nat.mod_lt _ hY⟩
/-- Two half steps are a whole one. -/
theorem kn_two {Y V u0 n1 n0 q1 q0 r1 r0 : Nat} (h1 : u0 * 4294967296 + n1 = q1 * Y + r1) (h2 : r1 * 4294967296 + n0 = q0 * Y + r0) (hr : r0 < Y) (hV : V = u0 * 18446744073709551616 + n1 * 4294967296 + n0) :
    V / Y = q1 * 4294967296 + q0 ∧ V % Y = r0 := by
  refine dm_add V Y _ _ (by omega) hr ?_
  grind
end Go.AM.LN
set_option maxRecDepth 20000
namespace Go.AM.LN
theorem and32 {a : Nat} (ha : a < 18446744073709551616) : AM.bits .and .u64 (a : Int) 4294967295 = ((a % 4294967296 : Nat) : Int) := by
  have h := and_mask (a := (a : Int)) 32 ⟨by omega, by omega⟩ (by omega)
  have e : ((2 : Int) ^ 32 - 1) = 4294967295 := rfl
  rw [e] at h
  rw [h]
  rfl
/-- The divisor's highest bit is brought to the top. -/
theorem d64_norm {y : Nat} (hy : 0 < y) (hyl : y < 18446744073709551616) : 64 - blen y ≤ 63 ∧ 9223372036854775808 ≤ y * 2 ^ (64 - blen y) ∧ y * 2 ^ (64 - blen y) < 18446744073709551616 := by
  have h1 : 1 ≤ blen y := by have := @blen_zero y; omega
  have h2 : blen y ≤ 64 := blen_lt.2 hyl
  have h3 := blen_mul (n := y) (by omega) (64 - blen y)
  have h4 : 2 ^ 63 ≤ y * 2 ^ (64 - blen y) := blen_le.1 (by omega)
  have h5 : y * 2 ^ (64 - blen y) < 2 ^ 64 := blen_lt.1 (by omega)
  exact ⟨by omega, h4, h5⟩
theorem d64_pre {h l y s Y : Nat} (hY : Y = y * 2 ^ s) (hYl : Y < 18446744073709551616) (hs : s ≤ 63) (hh : h < y) (hl : l < 18446744073709551616) :
    h * 2 ^ s % 18446744073709551616 + l / 2 ^ (64 - s) < Y ∧ (h * 2 ^ s % 18446744073709551616 + l / 2 ^ (64 - s)) * 18446744073709551616 + l * 2 ^ s % 18446744073709551616 = (h * 18446744073709551616 + l) * 2 ^ s := by
  have h1 := mul_mod_div hl (show s ≤ 64 by omega)
  have h2 := hi_lt hl (show s ≤ 64 by omega)
  have h3 : (h + 1) * 2 ^ s ≤ Y := by rw [hY]; exact Nat.mul_le_mul_right _ hh
  rw [Nat.add_mul, Nat.one_mul] at h3
  have h4 : h * 2 ^ s % 18446744073709551616 = h * 2 ^ s := Nat.mod_eq_of_lt (by omega)
  rw [h4, Nat.add_mul (h * 18446744073709551616), Nat.mul_right_comm]
  constructor <;> omega
theorem d64_fin {V y s Y q r : Nat} (hY : Y = y * 2 ^ s) (hq : V * 2 ^ s / Y = q) (hr : V * 2 ^ s % Y = r) : q = V / y ∧ r / 2 ^ s = V % y := by
  subst hY
  rw [Nat.mul_div_mul_right _ _ (Nat.two_pow_pos s)] at hq
  rw [Nat.mul_mod_mul_right] at hr
  exact ⟨hq.symm, by rw [← hr, Nat.mul_div_cancel _ (Nat.two_pow_pos s)]⟩
/-- The words that the division by one word goes over. -/
structure D64 (h l y s Y y1 y0 u n1 n0 Q1 R1 Q0 R0 : Nat) : Prop where
  hs : s ≤ 63
  hY : y * 2 ^ s = Y
  hYl : 9223372036854775808 ≤ Y ∧ Y < 18446744073709551616
  hy1 : Y / 4294967296 = y1
  hy0 : Y % 4294967296 = y0
  y1l : 2147483648 ≤ y1 ∧ y1 < 4294967296
  y0l : y0 < 4294967296
  Ye : y1 * 4294967296 + y0 = Y
  hu : h * 2 ^ s % 18446744073709551616 + l / 2 ^ (64 - s) = u
  hul : u < Y
  n1e : l * 2 ^ s % 18446744073709551616 / 4294967296 = n1
  n0e : l * 2 ^ s % 18446744073709551616 % 4294967296 = n0
  n1l : n1 < 4294967296
  n0l : n0 < 4294967296
  Q1e : (u * 4294967296 + n1) / (y1 * 4294967296 + y0) = Q1
  R1e : u * 4294967296 + n1 = Q1 * Y + R1
  R1l : R1 < Y
  Q0e : (R1 * 4294967296 + n0) / (y1 * 4294967296 + y0) = Q0
  R0e : R1 * 4294967296 + n0 = Q0 * Y + R0
  R0l : R0 < Y
  Q1l : Q1 < 4294967296
  Q0l : Q0 < 4294967296
  quo : Q1 * 4294967296 + Q0 = (h * 18446744073709551616 + l) / y
  rem : R0 / 2 ^ s = (h * 18446744073709551616 + l) % y
theorem d64_mk {h l y s : Nat} (hy : 0 < y) (hyl : y < 18446744073709551616) (hh : h < y) (hl : l < 18446744073709551616) (hse : 64 - blen y = s) :
    ∃ Y y1 y0 u n1 n0 Q1 R1 Q0 R0, D64 h l y s Y y1 y0 u n1 n0 Q1 R1 Q0 R0 := by
  obtain ⟨a1, a2, a3⟩ := d64_norm hy hyl
  rw [hse] at a1 a2 a3
  obtain ⟨Y, hY⟩ : ∃ Y, y * 2 ^ s = Y := ⟨_, rfl⟩
  rw [hY] at a2 a3
  obtain ⟨b1, b2⟩ := d64_pre hY.symm a3 a1 hh hl
  obtain ⟨u, hu⟩ : ∃ u, h * 2 ^ s % 18446744073709551616 + l / 2 ^ (64 - s) = u := ⟨_, rfl⟩
  rw [hu] at b1 b2
  obtain ⟨w, hw⟩ : ∃ w, l * 2 ^ s % 18446744073709551616 = w := ⟨_, rfl⟩
  have hwl : w < 18446744073709551616 := by rw [← hw]; exact Nat.mod_lt _ (Nat.lt_of_lt_of_eq (Nat.two_pow_pos 64) rfl)
  rw [hw] at b2
  have Ye : Y / 4294967296 * 4294967296 + Y % 4294967296 = Y := Nat.div_add_mod' Y 4294967296
  have hq1 : (u * 4294967296 + w / 4294967296) / (Y / 4294967296 * 4294967296 + Y % 4294967296) < 4294967296 := (Nat.div_lt_iff_lt_mul (by omega)).2 (by omega)
  have k1 := kn_rest (Y := Y) (u := u) (n := w / 4294967296) (q := (u * 4294967296 + w / 4294967296) / Y) (by omega) rfl
  obtain ⟨R1, hR1⟩ : ∃ R1, (u * 4294967296 + w / 4294967296) % Y = R1 := ⟨_, rfl⟩
  rw [hR1] at k1
  have k2 := kn_rest (Y := Y) (u := R1) (n := w % 4294967296) (q := (R1 * 4294967296 + w % 4294967296) / Y) (by omega) rfl
  have hq0 : (R1 * 4294967296 + w % 4294967296) / (Y / 4294967296 * 4294967296 + Y % 4294967296) < 4294967296 := (Nat.div_lt_iff_lt_mul (by omega)).2 (by omega)
  have k3 := kn_two (V := (h * 18446744073709551616 + l) * 2 ^ s) k1.1 k2.1 k2.2 (by omega)
  obtain ⟨c1, c2⟩ := d64_fin hY.symm k3.1 k3.2
  refine ⟨Y, Y / 4294967296, Y % 4294967296, u, w / 4294967296, w % 4294967296, (u * 4294967296 + w / 4294967296) / Y, R1, (R1 * 4294967296 + w % 4294967296) / Y, (R1 * 4294967296 + w % 4294967296) % Y, ?_⟩
  rw [Ye] at hq1 hq0
  exact { hs := a1, hY := hY, hYl := ⟨a2, a3⟩, hy1 := rfl, hy0 := rfl, y1l := by omega, y0l := by omega, Ye := Ye, hu := hu, hul := b1, n1e := by rw [hw], n0e := by rw [hw], n1l := by omega, n0l := by omega, Q1e := by rw [Ye], R1e := k1.1, R1l := k1.2, Q0e := by rw [Ye], R0e := k2.1, R0l := k2.2, Q1l := hq1, Q0l := hq0, quo := c1, rem := c2 }
end Go.AM.LN
set_option maxRecDepth 20000
namespace Go.AM.LN
theorem val_set {o : List Int} {j : Nat} (h : j < o.length) (v : Int) : val (o.set j v) + 2 ^ (64 * j) * (o.getD j 0).toNat = val o + 2 ^ (64 * j) * v.toNat := by
  have h1 := val_split h
  have h2 := val_split (a := o.set j v) (i := j) (by simpa using h)
  rw [take_set_lt (Nat.le_refl _), getD_set_self h, drop_set_succ] at h2
  generalize 2 ^ (64 * j) = p at *
  generalize val (o.drop (j + 1)) = d at *
  rw [h1, h2]
  grind
theorem pow64_add (i k : Nat) : 2 ^ (64 * (i + k)) = 2 ^ (64 * i) * 2 ^ (64 * k) := by rw [Nat.mul_add, Nat.pow_add]
theorem pow64_succ (i : Nat) : 2 ^ (64 * (i + 1)) = 18446744073709551616 * 2 ^ (64 * i) := p64 i
theorem prod_le {x y : Nat} (hx : x < 18446744073709551616) (hy : y < 18446744073709551616) : x * y ≤ 340282366920938463426481119284349108225 := by
  have h1 : x * y ≤ 18446744073709551615 * y := Nat.mul_le_mul_right _ (by omega)
  omega
/-- One word of a product: what is kept and what goes on. -/
theorem mul_word {pr : Nat} {c w : Int} (h : pr ≤ 340282366920938463426481119284349108225) (hc : 0 ≤ c ∧ c < 18446744073709551616) (hw : 0 ≤ w ∧ w < 18446744073709551616) :
    ∃ c' s : Nat, (((((pr / 18446744073709551616 : Nat) : Int) + (((pr % 18446744073709551616 : Nat) : Int) + c + 0) / 18446744073709551616) % 18446744073709551616 + (w + (((pr % 18446744073709551616 : Nat) : Int) + c + 0) % 18446744073709551616 + 0) / 18446744073709551616) % 18446744073709551616 = (c' : Int)) ∧
      ((w + (((pr % 18446744073709551616 : Nat) : Int) + c + 0) % 18446744073709551616 + 0) % 18446744073709551616 = (s : Int)) ∧ pr + c.toNat + w.toNat = c' * 18446744073709551616 + s ∧ c' < 18446744073709551616 ∧ s < 18446744073709551616 := by
  refine ⟨(pr + c.toNat + w.toNat) / 18446744073709551616, (pr + c.toNat + w.toNat) % 18446744073709551616, ?_, ?_, ?_, ?_, ?_⟩ <;> omega
/-- A round of the inner loop of a product. -/
theorem mul_step {o b : List Int} {i k c c' s x P : Nat} (hj : i + k < o.length) (hI : val o + c * 2 ^ (64 * (i + k)) = P + x * 2 ^ (64 * i) * val (b.take k))
    (hw : x * (b.getD k 0).toNat + c + (o.getD (i + k) 0).toNat = c' * 18446744073709551616 + s) :
    val (o.set (i + k) (s : Int)) + c' * 2 ^ (64 * (i + (k + 1))) = P + x * 2 ^ (64 * i) * val (b.take (k + 1)) := by
  have h1 := val_set hj (s : Int)
  rw [val_take_succ', show i + (k + 1) = (i + k) + 1 by omega, pow64_succ, pow64_add] at *
  rw [Int.toNat_natCast] at h1
  generalize 2 ^ (64 * i) = p at *
  generalize 2 ^ (64 * k) = q at *
  generalize (o.getD (i + k) 0).toNat = w at *
  generalize (b.getD k 0).toNat = y at *
  generalize val (b.take k) = V at *
  have e : p * q * (c' * 18446744073709551616 + s) = p * q * (x * y + c + w) := by rw [hw]
  grind
/-- A row of a product is done. -/
theorem mul_row {o a : List Int} {i n c V : Nat} (hj : i + n < o.length) (h0 : o.getD (i + n) 0 = 0)
    (hI : val o + c * 2 ^ (64 * (i + n)) = val (a.take i) * V + (a.getD i 0).toNat * 2 ^ (64 * i) * V) : val (o.set (i + n) (c : Int)) = val (a.take (i + 1)) * V := by
  have h1 := val_set hj (c : Int)
  rw [h0, Int.toNat_natCast] at h1
  rw [val_take_succ']
  grind
theorem getD_set_other {o : List Int} {i j : Nat} (h : i ≠ j) (v : Int) : (o.set i v).getD j 0 = o.getD j 0 := by
  simp only [List.getD, List.getElem?_set]
  rw [if_neg h]
theorem getD_zero_of_lt {o : List Int} {j : Nat} (lo : lim o) (h : val o < 2 ^ (64 * j)) : o.getD j 0 = 0 := by
  have h1 := val_getD o j lo
  rw [Nat.div_eq_of_lt h, Nat.zero_mod] at h1
  have h2 := lim_get lo (i := j)
  omega
theorem prod_lt {a b : List Int} (la : lim a) (lb : lim b) (i : Nat) : val (a.take i) * val b < 2 ^ (64 * (i + b.length)) := by
  rw [pow64_add]
  exact Nat.mul_lt_mul'' (val_take_lt la i) (val_lt lb)
theorem len_mul_le {a b : List Int} (la : lim a) (lb : lim b) : (limbs (val a * val b)).length ≤ a.length + b.length := by
  have h := prod_lt la lb a.length
  rw [List.take_length] at h
  exact len_le_of h
end Go.AM.LN
