/- Part AmAwp of the proof: own text. -/
import Derived.Test.YtknejocjkjpfmaaAmSp4
set_option linter.all false
namespace Go.AM
def bindP (o : Option Sp) (k : Sp → Prop) : Prop := match o with
  | some s => Chk s.pre (k s)
  | none => False
def aOne (ty : Ty) (Γ : Gam) (o : Oper) (env : List (Nat × AV)) (mem : List (Nat × Ct × Bool)) (k : List (Nat × AV) → List (Nat × Ct × Bool) → Prop) : Prop :=
  match o.dst, o.op with
  | some d, op => if isSp op = true then bindP (aSp ty env mem d op) fun s => k ((d, s.av) :: s.env) ((s.key, s.ct, false) :: mem) else bindO (aStep ty Γ ⟨lk env, lk mem⟩ d op) fun a m => Chk (freshM (lk mem) d m) (k ((d, a) :: env) (m ++ mem))
  | none, .store t x y => bindS (aStore ty ⟨lk env, lk mem⟩ t x y) fun key c => k env ((key, c, false) :: mem)
  | none, _ => False
/-- The operations in the order of the text. -/
def awpOps (ty : Ty) (Γ : Gam) (all : List Oper) (K : List (Nat × AV) → List (Nat × Ct × Bool) → Prop) : List Oper → List (Nat × AV) → List (Nat × Ct × Bool) → Prop
  | [], env, mem => K env mem
  | o :: r, env, mem => bindG (aGuard all ⟨lk env, lk mem⟩ o.guard)
      (aOne ty Γ o env mem (awpOps ty Γ all K r))
      (aOne ty Γ o (gset all o.guard true ++ env) mem (awpOps ty Γ all K r))
      (awpOps ty Γ all K r (skipE o.dst (gset all o.guard false ++ env)) mem)
      (awpOps ty Γ all K r (skipE o.dst env) mem)
def aCond (a : AV) (x y : Prop) : Prop :=
  match a with
  | .v (.bool c) => Brk c x y
  | _ => False
abbrev Post := Ex → List (Nat × AV) → List (Nat × Ct × Bool) → Prop
/-- One state says no less than another. -/
def Ent (env : List (Nat × AV)) (mem : List (Nat × Ct × Bool)) (env' : List (Nat × AV)) (mem' : List (Nat × Ct × Bool)) : Prop :=
  ∀ V w0 N a w, Rep V w0 N (lk env) (lk mem) a w → Rep V w0 N (lk env') (lk mem') a w
def thenP (f : List (Nat × AV) → List (Nat × Ct × Bool) → Prop) (Q : Post) : Post := fun e env mem => match e with
  | .normal => ∃ env0 mem0, Ent env mem env0 mem0 ∧ f env0 mem0
  | e => Q e env mem
def blockP (id : Nat) (Q : Post) : Post := fun e env mem => match e with
  | .exit j => if j = id then Q .normal env mem else Q (.exit j) env mem
  | e => Q e env mem
/-- A round has ended: another state of the loop's, nearer to the end. -/
def loopP {ι : Type} (env : ι → List (Nat × AV)) (mem : ι → List (Nat × Ct × Bool)) (μ : ι → Nat) (i : ι) (Q : Post) : Post := fun e env' mem' => match e with
  | .normal => ∃ j, Ent env' mem' (env j) (mem j) ∧ μ j < μ i
  | e => Q e env' mem'
/-- What follows may come up in any order, as the edges let it; operations that meddle with one another are tied by an edge. -/
def edged (o : Oper) (j : Nat) : Bool := o.after.any fun e => Region.binds .any e && e.on == j
def tmpsOf (op : Op) : List Nat := op.operands.toList.filterMap fun | .tmp t => some t | _ => none
def looks (all : List Oper) (o : Oper) : List Nat := tmpsOf o.op ++ (match o.guard with | some (j, _) => ((all[j]?).bind (·.dst)).toList | none => [])
def slotD (ops : List Oper) (j : Nat) : Option Nat := (ops[j]?).bind (·.dst)
def looksAt (ops : List Oper) (j : Nat) : List Nat := ((ops[j]?).map (looks ops)).getD []
def hits (x : Option Nat) (l : List Nat) : Bool := match x with
  | some t => l.contains t
  | none => false
def meddle (ops : List Oper) (i j : Nat) : Bool := hits (slotD ops j) (looksAt ops i) || hits (slotD ops i) (looksAt ops j) || ((slotD ops i).isSome && slotD ops i == slotD ops j)
def isSt (o : Oper) : Bool := match o.op with
  | .store .. => true
  | _ => false
def isAs (o : Oper) : Bool := match o.op with
  | .assign _ => true
  | _ => false
def drawOp (ops : List Oper) (i : Nat) (o : Oper) : Bool :=
  (o.after.all fun e => !(Region.binds .any e) || decide (e.on < i)) && (o.dst.isSome || isSt o) &&
  ((List.range i).all fun j => !(meddle ops i j) || edged o j) &&
  (isAs o || o.dst.isNone || (List.range ops.length).all fun j => j == i || slotD ops j != o.dst)
def drawOk (ops : List Oper) : Bool := (List.range ops.length).all fun i => match ops[i]? with | some o => drawOp ops i o | none => true
def noFz : List (Nat × Ct × Bool) → Prop
  | [] => True
  | (_, _, fr) :: r => fr = false ∧ noFz r
/-- The block that a slot speaks of. -/
def keyOn : AV → Option Nat
  | .ref key _ => some key
  | .ow key => some key
  | .al key _ _ => some key
  | .ows key _ => some key
  | _ => none
def keyAt (mem0 : List (Nat × Ct × Bool)) (t : Nat) (a : Option AV) : Bool := match a.bind keyOn with
  | none => true
  | some key => (lk mem0 key).isSome || key / 16 == t
def keysAt (mem0 : List (Nat × Ct × Bool)) (e : Env) : List Nat → Bool
  | [] => true
  | t :: r => keyAt mem0 t (e t) && keysAt mem0 e r
def rdKeys (e : Env) (l : List Nat) : List Nat := l.filterMap fun t => (e t).bind keyOn
def clash (wr : List (Nat × Nat)) (o : Oper) (ks : List Nat) : Bool := wr.all fun p => !(ks.contains p.2) || edged o p.1
def clashK (rd : List (Nat × Nat)) (o : Oper) (key : Nat) : Bool := rd.all fun p => p.2 != key || edged o p.1
abbrev NNs := List (Nat × Nat)
abbrev DK := NNs → NNs → List (Nat × AV) → List (Nat × Ct × Bool) → Prop
/-- One operation of a drawn region: i its place; rd, wr: who has read and stored what. -/
def dOne (ty : Ty) (Γ : Gam) (mem0 : List (Nat × Ct × Bool)) (i : Nat) (o : Oper) (rd wr : NNs) (env : List (Nat × AV)) (mem : List (Nat × Ct × Bool)) (k : DK) : Prop :=
  (keysAt mem0 (lk env) (tmpsOf o.op) && clash wr o (rdKeys (lk env) (tmpsOf o.op))) = true ∧
  match o.dst, o.op with
  | some d, op => bindO (aStep ty Γ ⟨lk env, lk mem⟩ d op) fun a m => Chk (freshM (lk mem) d m ∧ noFz m) (k ((rdKeys (lk env) (tmpsOf op)).map (fun x => (i, x)) ++ rd) wr ((d, a) :: env) (m ++ mem))
  | none, .store t x y => bindS (aStore ty ⟨lk env, lk mem⟩ t x y) fun key c => Chk (((lk mem0 key).isSome && clashK rd o key) = true) (k ((rdKeys (lk env) (tmpsOf o.op)).map (fun x => (i, x)) ++ rd) ((i, key) :: wr) env ((key, c, false) :: mem))
  | none, _ => False
def awpD (ty : Ty) (Γ : Gam) (all : List Oper) (mem0 : List (Nat × Ct × Bool)) (K : List (Nat × AV) → List (Nat × Ct × Bool) → Prop) : Nat → NNs → NNs → List Oper → List (Nat × AV) → List (Nat × Ct × Bool) → Prop
  | _, _, _, [], env, mem => K env mem
  | i, rd, wr, o :: r, env, mem => bindG (aGuard all ⟨lk env, lk mem⟩ o.guard)
      (dOne ty Γ mem0 i o rd wr env mem fun rd wr env mem => awpD ty Γ all mem0 K (i + 1) rd wr r env mem)
      (dOne ty Γ mem0 i o rd wr (gset all o.guard true ++ env) mem fun rd wr env mem => awpD ty Γ all mem0 K (i + 1) rd wr r env mem)
      (awpD ty Γ all mem0 K (i + 1) rd wr r (skipE o.dst (gset all o.guard false ++ env)) mem)
      (awpD ty Γ all mem0 K (i + 1) rd wr r (skipE o.dst env) mem)
def awp (ty : Ty) (Γ : Gam) : Code → Post → List (Nat × AV) → List (Nat × Ct × Bool) → Prop
  | .skip, Q, env, mem => Q .normal env mem
  | .ret, Q, env, mem => Q .ret env mem
  | .exit id, Q, env, mem => Q (.exit id) env mem
  | .seq a b, Q, env, mem => awp ty Γ a (thenP (awp ty Γ b Q) Q) env mem
  | .block id c, Q, env, mem => awp ty Γ c (blockP id Q) env mem
  | .cond x a b, Q, env, mem => aCond (opd ⟨lk env, lk mem⟩ x) (awp ty Γ a Q env mem) (awp ty Γ b Q env mem)
  | .region _ ops false, Q, env, mem => awpOps ty Γ ops.toList (Q .normal) ops.toList env mem
  | .region _ ops true, Q, env, mem => drawOk ops.toList = true ∧ awpD ty Γ ops.toList mem (Q .normal) 0 [] [] ops.toList env mem
  | .loop c, Q, env, mem => ∃ (ι : Type) (E : ι → List (Nat × AV)) (M : ι → List (Nat × Ct × Bool)) (μ : ι → Nat) (i0 : ι), Ent env mem (E i0) (M i0) ∧ ∀ i, awp ty Γ c (loopP E M μ i Q) (E i) (M i)
  | _, _, _, _ => False

section
variable {ty : Ty} {Γ : Gam} {Q : Post} {env env' : List (Nat × AV)} {mem mem' : List (Nat × Ct × Bool)}
theorem Chk_true (k : Prop) : Chk True k = k := by simp [Chk]
theorem Brk_true (a b : Prop) : Brk true a b = a := by simp [Brk]
theorem Brk_false (a b : Prop) : Brk false a b = b := by simp [Brk]
theorem Chk_congr {p p' k : Prop} (h : p = p') : Chk p k = Chk p' k := by rw [h]
theorem Brk_congr {c c' : Bool} {a b : Prop} (h : c = c') : Brk c a b = Brk c' a b := by rw [h]
theorem bindO_some (p : Prop) (a : AV) (m : List (Nat × Ct × Bool)) (k : AV → List (Nat × Ct × Bool) → Prop) : bindO (some ⟨p, a, m⟩) k = Chk p (k a m) := rfl
theorem bindO_congr {o o' : Option Out} {k : AV → List (Nat × Ct × Bool) → Prop} (h : o = o') : bindO o k = bindO o' k := by rw [h]
theorem bindS_some (key : Nat) (p : Prop) (c : Ct) (k : Nat → Ct → Prop) : bindS (some (key, p, c)) k = Chk p (k key c) := rfl
theorem bindS_congr {o o' : Option (Nat × Prop × Ct)} {k : Nat → Ct → Prop} (h : o = o') : bindS o k = bindS o' k := by rw [h]
theorem bindG_no (a b c d : Prop) : bindG .no a b c d = a := rfl
theorem bindG_off (a b c d : Prop) : bindG .off a b c d = d := rfl
theorem bindG_tt (t : Bool) (a b c d : Prop) : bindG (.tt t) a b c d = Brk t b c := rfl
theorem bindG_congr {g g' : GR} {a b c d : Prop} (h : g = g') : bindG g a b c d = bindG g' a b c d := by rw [h]
theorem awpOps_congr {all l : List Oper} {K : List (Nat × AV) → List (Nat × Ct × Bool) → Prop} (h : env = env') (h' : mem = mem') : awpOps ty Γ all K l env mem = awpOps ty Γ all K l env' mem' := by rw [h, h']
theorem aOne_congr {o : Oper} {k : List (Nat × AV) → List (Nat × Ct × Bool) → Prop} (h : env = env') (h' : mem = mem') : aOne ty Γ o env mem k = aOne ty Γ o env' mem' k := by rw [h, h']
theorem awp_congr {c : Code} (h : env = env') (h' : mem = mem') : awp ty Γ c Q env mem = awp ty Γ c Q env' mem' := by rw [h, h']
theorem aCond_congr {a a' : AV} {x y : Prop} (h : a = a') : aCond a x y = aCond a' x y := by rw [h]
theorem thenP_congr {f : List (Nat × AV) → List (Nat × Ct × Bool) → Prop} {e : Ex} (h : env = env') (h' : mem = mem') : thenP f Q e env mem = thenP f Q e env' mem' := by rw [h, h']
theorem blockP_congr {id : Nat} {e : Ex} (h : env = env') (h' : mem = mem') : blockP id Q e env mem = blockP id Q e env' mem' := by rw [h, h']
theorem Ent.refl (env : List (Nat × AV)) (mem : List (Nat × Ct × Bool)) : Ent env mem env mem := fun _ _ _ _ _ h => h
theorem thenP_normal_i {f : List (Nat × AV) → List (Nat × Ct × Bool) → Prop} (h : f env mem) : thenP f Q .normal env mem := ⟨env, mem, Ent.refl env mem, h⟩
theorem Ent.trans {env'' : List (Nat × AV)} {mem'' : List (Nat × Ct × Bool)} (h : Ent env mem env' mem') (h' : Ent env' mem' env'' mem'') : Ent env mem env'' mem'' := fun V w0 N a w hr => h' V w0 N a w (h V w0 N a w hr)
theorem thenP_ret {f : List (Nat × AV) → List (Nat × Ct × Bool) → Prop} : thenP f Q .ret env mem = Q .ret env mem := rfl
theorem thenP_exit {f : List (Nat × AV) → List (Nat × Ct × Bool) → Prop} {i : Nat} : thenP f Q (.exit i) env mem = Q (.exit i) env mem := rfl
theorem blockP_normal {id : Nat} : blockP id Q .normal env mem = Q .normal env mem := rfl
theorem blockP_ret {id : Nat} : blockP id Q .ret env mem = Q .ret env mem := rfl
theorem blockP_exit {id j : Nat} : blockP id Q (.exit j) env mem = if j = id then Q .normal env mem else Q (.exit j) env mem := rfl
theorem awp_skip : awp ty Γ .skip Q env mem = Q .normal env mem := rfl
theorem awp_ret : awp ty Γ .ret Q env mem = Q .ret env mem := rfl
theorem awp_exit {id : Nat} : awp ty Γ (.exit id) Q env mem = Q (.exit id) env mem := rfl
theorem awp_seq {a b : Code} : awp ty Γ (.seq a b) Q env mem = awp ty Γ a (thenP (awp ty Γ b Q) Q) env mem := rfl
theorem awp_block {id : Nat} {c : Code} : awp ty Γ (.block id c) Q env mem = awp ty Γ c (blockP id Q) env mem := rfl
theorem awp_cond {x : Operand} {a b : Code} : awp ty Γ (.cond x a b) Q env mem = aCond (opd ⟨lk env, lk mem⟩ x) (awp ty Γ a Q env mem) (awp ty Γ b Q env mem) := rfl
theorem aCond_bool {c : Bool} {x y : Prop} : aCond (.v (.bool c)) x y = Brk c x y := rfl
theorem awpOps_nil {all : List Oper} {K : List (Nat × AV) → List (Nat × Ct × Bool) → Prop} : awpOps ty Γ all K [] env mem = K env mem := rfl
theorem awpOps_cons {all r : List Oper} {o : Oper} {K : List (Nat × AV) → List (Nat × Ct × Bool) → Prop} : awpOps ty Γ all K (o :: r) env mem = bindG (aGuard all ⟨lk env, lk mem⟩ o.guard)
      (aOne ty Γ o env mem (awpOps ty Γ all K r))
      (aOne ty Γ o (gset all o.guard true ++ env) mem (awpOps ty Γ all K r))
      (awpOps ty Γ all K r (skipE o.dst (gset all o.guard false ++ env)) mem)
      (awpOps ty Γ all K r (skipE o.dst env) mem) := rfl
theorem aOne_dst {d : Nat} {op : Op} {t : TypeId} {pos : String} {after : Array Edge} {g : Option (Nat × Bool)} {k : List (Nat × AV) → List (Nat × Ct × Bool) → Prop} (h : isSp op = false) :
    aOne ty Γ ⟨some d, op, t, pos, after, g⟩ env mem k = bindO (aStep ty Γ ⟨lk env, lk mem⟩ d op) fun a m => Chk (freshM (lk mem) d m) (k ((d, a) :: env) (m ++ mem)) := if_neg (by simp [h])
theorem aOne_sp {d : Nat} {op : Op} {t : TypeId} {pos : String} {after : Array Edge} {g : Option (Nat × Bool)} {k : List (Nat × AV) → List (Nat × Ct × Bool) → Prop} (h : isSp op = true) :
    aOne ty Γ ⟨some d, op, t, pos, after, g⟩ env mem k = bindP (aSp ty env mem d op) fun s => k ((d, s.av) :: s.env) ((s.key, s.ct, false) :: mem) := if_pos h
theorem aOne_store {t t' : TypeId} {x y : Operand} {pos : String} {after : Array Edge} {g : Option (Nat × Bool)} {k : List (Nat × AV) → List (Nat × Ct × Bool) → Prop} :
    aOne ty Γ ⟨none, .store t' x y, t, pos, after, g⟩ env mem k = bindS (aStore ty ⟨lk env, lk mem⟩ t' x y) fun key c => k env ((key, c, false) :: mem) := rfl
theorem awp_seq_k {a b : Code} (h : ∀ K : List (Nat × AV) → List (Nat × Ct × Bool) → Prop, (∀ env mem, awp ty Γ b Q env mem → K env mem) → awp ty Γ a (thenP K Q) env mem) : awp ty Γ (.seq a b) Q env mem := h _ fun _ _ h => h
theorem awp_block_i {id : Nat} {c : Code} (h : awp ty Γ c (blockP id Q) env mem) : awp ty Γ (.block id c) Q env mem := h
theorem awp_skip_i (h : Q .normal env mem) : awp ty Γ .skip Q env mem := h
theorem awp_ret_i (h : Q .ret env mem) : awp ty Γ .ret Q env mem := h
theorem awp_exit_i {id : Nat} (h : Q (.exit id) env mem) : awp ty Γ (.exit id) Q env mem := h
theorem awp_region_k {id : Nat} {l : List Oper} (h : ∀ K : List (Nat × AV) → List (Nat × Ct × Bool) → Prop, (∀ env mem, Q .normal env mem → K env mem) → awpOps ty Γ l K l env mem) : awp ty Γ (.region id l.toArray false) Q env mem := h _ fun _ _ h => h
theorem awp_draw_k {id : Nat} {l : List Oper} (hd : drawOk l = true) (h : ∀ K : List (Nat × AV) → List (Nat × Ct × Bool) → Prop, (∀ env mem, Q .normal env mem → K env mem) → awpD ty Γ l mem K 0 [] [] l env mem) : awp ty Γ (.region id l.toArray true) Q env mem := ⟨hd, h _ fun _ _ h => h⟩
theorem awp_loop_i {c : Code} {ι : Type} (E : ι → List (Nat × AV)) (M : ι → List (Nat × Ct × Bool)) (μ : ι → Nat) (i0 : ι) (h0 : Ent env mem (E i0) (M i0)) (h : ∀ i, awp ty Γ c (loopP E M μ i Q) (E i) (M i)) : awp ty Γ (.loop c) Q env mem := ⟨ι, E, M, μ, i0, h0, h⟩
theorem awp_cond_i {x : Operand} {a b : Code} {c : Bool} (hx : opd ⟨lk env, lk mem⟩ x = .v (.bool c)) (h : Brk c (awp ty Γ a Q env mem) (awp ty Γ b Q env mem)) : awp ty Γ (.cond x a b) Q env mem := by
  rw [awp_cond, hx]; exact h
theorem Chk_i {p k : Prop} (hp : p) (hk : k) : Chk p k := ⟨hp, hk⟩
theorem Brk_i {c : Bool} {a b : Prop} (ha : c = true → a) (hb : c = false → b) : Brk c a b := ⟨ha, hb⟩
end
end Go.AM
