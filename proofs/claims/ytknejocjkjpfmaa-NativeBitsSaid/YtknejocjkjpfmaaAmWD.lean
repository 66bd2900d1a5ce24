/- Part AmWD of the proof: own text. -/
import Derived.Test.YtknejocjkjpfmaaBitL
set_option linter.all false
namespace Go.AM
section
variable {ty : Ty} {Γ : Gam} {env : List (Nat × AV)} {mem mem0 : List (Nat × Ct × Bool)} {all r : List Oper} {K : List (Nat × AV) → List (Nat × Ct × Bool) → Prop} {rd wr : NNs} {i : Nat} {o : Oper}
theorem awpD_nil : awpD ty Γ all mem0 K i rd wr [] env mem = K env mem := rfl
theorem awpD_cons : awpD ty Γ all mem0 K i rd wr (o :: r) env mem = bindG (aGuard all ⟨lk env, lk mem⟩ o.guard)
      (dOne ty Γ mem0 i o rd wr env mem fun rd wr env mem => awpD ty Γ all mem0 K (i + 1) rd wr r env mem)
      (dOne ty Γ mem0 i o rd wr (gset all o.guard true ++ env) mem fun rd wr env mem => awpD ty Γ all mem0 K (i + 1) rd wr r env mem)
      (awpD ty Γ all mem0 K (i + 1) rd wr r (skipE o.dst (gset all o.guard false ++ env)) mem)
      (awpD ty Γ all mem0 K (i + 1) rd wr r (skipE o.dst env) mem) := rfl
def keysB (mem0 : List (Nat × Ct × Bool)) (env : List (Nat × AV)) (wr : NNs) (o : Oper) : Prop := (keysAt mem0 (lk env) (tmpsOf o.op) && clash wr o (rdKeys (lk env) (tmpsOf o.op))) = true
def keysC (mem0 : List (Nat × Ct × Bool)) (env : List (Nat × AV)) (op : Op) : Prop := keysAt mem0 (lk env) (tmpsOf op) = true
def rdN (env : List (Nat × AV)) (i : Nat) (op : Op) (rd : NNs) : NNs := (rdKeys (lk env) (tmpsOf op)).map (fun x => (i, x)) ++ rd
theorem dOne_dst {d : Nat} {op : Op} {t : TypeId} {pos : String} {after : Array Edge} {g : Option (Nat × Bool)} {k : DK} :
    dOne ty Γ mem0 i ⟨some d, op, t, pos, after, g⟩ rd wr env mem k = Chk (keysB mem0 env wr ⟨some d, op, t, pos, after, g⟩) (bindO (aStep ty Γ ⟨lk env, lk mem⟩ d op) fun a m => Chk (freshM (lk mem) d m ∧ noFz m) (k (rdN env i op rd) wr ((d, a) :: env) (m ++ mem))) := rfl
theorem dOne_store {t t' : TypeId} {x y : Operand} {pos : String} {after : Array Edge} {g : Option (Nat × Bool)} {k : DK} :
    dOne ty Γ mem0 i ⟨none, .store t' x y, t, pos, after, g⟩ rd wr env mem k = Chk (keysB mem0 env wr ⟨none, .store t' x y, t, pos, after, g⟩) (bindS (aStore ty ⟨lk env, lk mem⟩ t' x y) fun key c => Chk (((lk mem0 key).isSome && clashK rd ⟨none, .store t' x y, t, pos, after, g⟩ key) = true) (k (rdN env i (.store t' x y) rd) ((i, key) :: wr) env ((key, c, false) :: mem))) := rfl
theorem awpD_congr {env' : List (Nat × AV)} {mem' : List (Nat × Ct × Bool)} (h : env = env') (h' : mem = mem') : awpD ty Γ all mem0 K i rd wr r env mem = awpD ty Γ all mem0 K i rd wr r env' mem' := by rw [h, h']
theorem dOne_congr {env' : List (Nat × AV)} {mem' : List (Nat × Ct × Bool)} {k : DK} (h : env = env') (h' : mem = mem') : dOne ty Γ mem0 i o rd wr env mem k = dOne ty Γ mem0 i o rd wr env' mem' k := by rw [h, h']
theorem keysB_i {wr : NNs} (h : (keysAt mem0 (lk env) (tmpsOf o.op) && clash wr o (rdKeys (lk env) (tmpsOf o.op))) = true) : keysB mem0 env wr o := h
theorem noFz_nil : noFz [] = True := rfl
theorem noFz_cons {k : Nat} {c : Ct} {fr : Bool} {r : List (Nat × Ct × Bool)} : noFz ((k, c, fr) :: r) = (fr = false ∧ noFz r) := rfl
theorem keysB_congr {env' : List (Nat × AV)} (h : env = env') : keysB mem0 env wr o = keysB mem0 env' wr o := by rw [h]
theorem awp_region_a {Q : Post} {id : Nat} {l : List Oper} (h : ∀ all, all = l → ∀ K : List (Nat × AV) → List (Nat × Ct × Bool) → Prop, (∀ env mem, Q .normal env mem → K env mem) → awpOps ty Γ all K l env mem) : awp ty Γ (.region id l.toArray false) Q env mem := h _ rfl _ fun _ _ h => h
theorem awp_draw_a {Q : Post} {id : Nat} {l : List Oper} (hd : drawOk l = true) (h : ∀ all, all = l → ∀ K : List (Nat × AV) → List (Nat × Ct × Bool) → Prop, (∀ env mem, Q .normal env mem → K env mem) → awpD ty Γ all mem K 0 [] [] l env mem) : awp ty Γ (.region id l.toArray true) Q env mem := ⟨hd, h _ rfl _ fun _ _ h => h⟩
theorem ops_k (h : ∀ X : List (Nat × AV) → List (Nat × Ct × Bool) → Prop, (∀ env mem, awpOps ty Γ all K r env mem → X env mem) → bindG (aGuard all ⟨lk env, lk mem⟩ o.guard) (aOne ty Γ o env mem X) (aOne ty Γ o (gset all o.guard true ++ env) mem X) (X (skipE o.dst (gset all o.guard false ++ env)) mem) (X (skipE o.dst env) mem)) : awpOps ty Γ all K (o :: r) env mem := h _ fun _ _ h => h
theorem opsD_k (h : ∀ X : DK, (∀ rd wr env mem, awpD ty Γ all mem0 K (i + 1) rd wr r env mem → X rd wr env mem) → bindG (aGuard all ⟨lk env, lk mem⟩ o.guard)
      (dOne ty Γ mem0 i o rd wr env mem X)
      (dOne ty Γ mem0 i o rd wr (gset all o.guard true ++ env) mem X)
      (X rd wr (skipE o.dst (gset all o.guard false ++ env)) mem)
      (X rd wr (skipE o.dst env) mem)) : awpD ty Γ all mem0 K i rd wr (o :: r) env mem := h _ fun _ _ _ _ h => h
theorem ops_nil_i (h : K env mem) : awpOps ty Γ all K [] env mem := h
theorem opsD_nil_i (h : K env mem) : awpD ty Γ all mem0 K i rd wr [] env mem := h
theorem retP_ret {vs : List ResultVar} {rs : Res} : retP ty vs rs .ret env mem = resOk ty (lk env) (lk mem) vs rs := rfl
theorem aGuard_none {s : St} : aGuard all s none = .no := rfl
theorem aGuard_some {s : St} {j : Nat} {b : Bool} : aGuard all s (some (j, b)) = match (all[j]?).bind (·.dst) with
    | some sl => match s.e sl with
      | some (.v (.bool c)) => .tt (c == b)
      | some (.v (.tuple _)) => .off
      | _ => .bad
    | none => .bad := rfl
theorem gset_none {t : Bool} : gset all none t = [] := rfl
theorem gset_some {j : Nat} {b t : Bool} : gset all (some (j, b)) t = [(((all[j]?).bind (·.dst)).getD 0, .v (.bool (if t then b else !b)))] := rfl
theorem undef_eq : undef = Value.tuple #[] := rfl
theorem beqT (b : Bool) : (b == true) = b := by cases b <;> rfl
theorem beqF (b : Bool) : (b == false) = !b := by cases b <;> rfl
/-- A drawn region without stores. -/
def nOne (ty : Ty) (Γ : Gam) (mem0 : List (Nat × Ct × Bool)) (o : Oper) (env : List (Nat × AV)) (mem : List (Nat × Ct × Bool)) (k : List (Nat × AV) → List (Nat × Ct × Bool) → Prop) : Prop :=
  match o.dst, o.op with
  | some d, op => Chk (keysAt mem0 (lk env) (tmpsOf op) = true) (bindO (aStep ty Γ ⟨lk env, lk mem⟩ d op) fun a m => Chk (freshM (lk mem) d m ∧ noFz m) (k ((d, a) :: env) (m ++ mem)))
  | none, _ => False
def awpN (ty : Ty) (Γ : Gam) (all : List Oper) (mem0 : List (Nat × Ct × Bool)) (K : List (Nat × AV) → List (Nat × Ct × Bool) → Prop) : List Oper → List (Nat × AV) → List (Nat × Ct × Bool) → Prop
  | [], env, mem => K env mem
  | o :: r, env, mem => bindG (aGuard all ⟨lk env, lk mem⟩ o.guard)
      (nOne ty Γ mem0 o env mem fun env mem => awpN ty Γ all mem0 K r env mem)
      (nOne ty Γ mem0 o (gset all o.guard true ++ env) mem fun env mem => awpN ty Γ all mem0 K r env mem)
      (awpN ty Γ all mem0 K r (skipE o.dst (gset all o.guard false ++ env)) mem)
      (awpN ty Γ all mem0 K r (skipE o.dst env) mem)
theorem nOne_ok {k : List (Nat × AV) → List (Nat × Ct × Bool) → Prop} {k' : DK} (hk : ∀ rd env mem, k env mem → k' rd [] env mem) (h : nOne ty Γ mem0 o env mem k) : dOne ty Γ mem0 i o rd [] env mem k' := by
  unfold nOne at h
  unfold dOne
  split at h
  · rename_i d op hd
    refine ⟨by rw [h.1]; rfl, ?_⟩
    rw [hd]
    refine bindO_mono h.2 (fun a m h2 => ?_)
    exact ⟨h2.1, hk _ _ _ h2.2⟩
  · exact h.elim
theorem awpN_ok : ∀ {r : List Oper} {i : Nat} {rd : NNs} {env : List (Nat × AV)} {mem : List (Nat × Ct × Bool)}, awpN ty Γ all mem0 K r env mem → awpD ty Γ all mem0 K i rd [] r env mem
  | [], i, rd, env, mem, h => h
  | o :: r, i, rd, env, mem, h => by
    rw [awpD_cons]
    unfold awpN at h
    refine bindG_mono h (nOne_ok (fun rd e m => awpN_ok (r := r))) (nOne_ok (fun rd e m => awpN_ok (r := r))) (awpN_ok (r := r)) (awpN_ok (r := r))
theorem awp_draw_n {Q : Post} {id : Nat} {l : List Oper} (hd : drawOk l = true) (h : ∀ all, all = l → ∀ K : List (Nat × AV) → List (Nat × Ct × Bool) → Prop, (∀ env mem, Q .normal env mem → K env mem) → awpN ty Γ all mem K l env mem) : awp ty Γ (.region id l.toArray true) Q env mem := ⟨hd, awpN_ok (h _ rfl _ fun _ _ h => h)⟩
theorem opsN_k (h : ∀ X : List (Nat × AV) → List (Nat × Ct × Bool) → Prop, (∀ env mem, awpN ty Γ all mem0 K r env mem → X env mem) → bindG (aGuard all ⟨lk env, lk mem⟩ o.guard) (nOne ty Γ mem0 o env mem X) (nOne ty Γ mem0 o (gset all o.guard true ++ env) mem X) (X (skipE o.dst (gset all o.guard false ++ env)) mem) (X (skipE o.dst env) mem)) : awpN ty Γ all mem0 K (o :: r) env mem := h _ fun _ _ h => h
theorem opsN_nil_i (h : K env mem) : awpN ty Γ all mem0 K [] env mem := h
theorem nOne_dst {d : Nat} {op : Op} {t : TypeId} {pos : String} {after : Array Edge} {g : Option (Nat × Bool)} {k : List (Nat × AV) → List (Nat × Ct × Bool) → Prop} :
    nOne ty Γ mem0 ⟨some d, op, t, pos, after, g⟩ env mem k = Chk (keysC mem0 env op) (bindO (aStep ty Γ ⟨lk env, lk mem⟩ d op) fun a m => Chk (freshM (lk mem) d m ∧ noFz m) (k ((d, a) :: env) (m ++ mem))) := rfl
theorem nOne_congr {env' : List (Nat × AV)} {mem' : List (Nat × Ct × Bool)} {k : List (Nat × AV) → List (Nat × Ct × Bool) → Prop} (h : env = env') (h' : mem = mem') : nOne ty Γ mem0 o env mem k = nOne ty Γ mem0 o env' mem' k := by rw [h, h']
theorem keysC_i {op : Op} (h : keysAt mem0 (lk env) (tmpsOf op) = true) : keysC mem0 env op := h
/-- The slots that are still wanted. -/
def keepE (live : List Nat) : List (Nat × AV) → List (Nat × AV)
  | [] => []
  | (k, a) :: r => if live.contains k then (k, a) :: keepE (live.erase k) r else keepE live r
end
end Go.AM
