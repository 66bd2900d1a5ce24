/- Part AmSp2 of the proof: own text. -/
import Derived.Test.YtknejocjkjpfmaaAmSp
set_option linter.all false
namespace Go.AM
open Go.RowKit (Below)
variable {P : Program} {V : Nat → Prop} {β : Nat → Option Nat} {w0 w w' : World} {N : Nat} {e : Env} {m : Mem} {a : Act}
variable {ty : Ty} {Γ : Gam} {d : Option Tmp} {tt : TypeId} {pos : String} {after : Array Edge} {g : Option (Nat × Bool)}
theorem run_app_room (w : World) (t tr el : TypeId) (i : TypeInfo) (ht : P.underlying t = some (.slice el)) (hi : P.info? el = some i) (hi1 : i.size = 1)
    (g sLen sCap : Nat) (cur : Array Value) (T : TypeId) (hg : w.heap[g]? = some (.cells cur T (0, 0)))
    (ad : Addr) (k c : Nat) (news : List Value) (hl : news.length = k) (hnews : ∀ j u, news[j]? = some u → w.cell? (ad.add j) = some u) (h1 : ∀ u ∈ news, u.oneCell' = true)
    (hroom : sLen + k ≤ sCap) (hfit : sLen + k ≤ cur.size) :
    (Builtin.append_ #[t, t] tr #[.slice (some ⟨g, 0, none⟩) sLen sCap, .slice (some ad) k c]).run P w =
      .ok (.slice (some ⟨g, 0, none⟩) (sLen + k) sCap) (w.setRow g (cur.toList.take sLen ++ news ++ cur.toList.drop (sLen + k)).toArray) := by
  have hf := run_firstCells_some (P := P) w i.size k ad k c news (by rw [hi1, Nat.mul_one]; exact hl) hnews
  have hst := run_storeCells_at P g sLen T news 0 cur w hg (by omega) h1
  simp only [Nat.add_zero] at hst
  rw [hi1] at hf
  rw [hl] at hst
  simp [Builtin.append_, run_underlying ht, sizeOf, typeInfo, hi, hi1, Builtin.lenOf, hroom, hf, Addr.add_lit, hst]
theorem run_app_zero (w : World) (t tr el : TypeId) (i : TypeInfo) (ht : P.underlying t = some (.slice el)) (hi : P.info? el = some i) (hi1 : i.size = 1)
    (A B : Option Addr) (sLen sCap c : Nat) (hroom : sLen ≤ sCap) :
    (Builtin.append_ #[t, t] tr #[.slice A sLen sCap, .slice B 0 c]).run P w = .ok (.slice A sLen sCap) w := by
  have hl : ∀ (x : Addr), (loadCells x 0).run P w = .ok #[] w := fun x => by simpa using run_loadCells_list (P := P) w x [] (by simp)
  cases A <;> cases B <;> simp [Builtin.append_, run_underlying ht, sizeOf, typeInfo, hi, hi1, Builtin.lenOf, hroom, Builtin.firstCells, storeCells, hl]

/-- What the second of two slices holds. -/
def yInts (s : St) (k : IntKind) (x : AV) : Option (List Int) := match x with
  | .v (.slice none 0 0) => some []
  | _ => match dvOf s x with
    | some (.sl k' l) => if k' = k then some l else none
    | _ => none
theorem yInts_ok (h : RepB V β w0 N e m a w) {y : Operand} {k : IntKind} {l : List Int} (hy : yInts ⟨e, m⟩ k (opd ⟨e, m⟩ y) = some l) :
    ∃ A cap, a.eval y = .slice A l.length cap ∧ l.length ≤ cap ∧ (l ≠ [] → ∃ ad : Addr, A = some ad ∧ ∀ j u, (l.map (Value.int k))[j]? = some u → w.cell? (ad.add j) = some u) := by
  have hrep := h.opd y
  unfold yInts at hy
  split at hy
  · rename_i hx
    cases hy
    rw [hx] at hrep
    exact ⟨none, 0, hrep, Nat.le_refl _, fun h => absurd rfl h⟩
  · split at hy
    · rename_i k' l' hd
      split at hy
      · rename_i hk
        subst hk
        cases hy
        obtain ⟨A, cap, h1, h2, h3, h4⟩ := dvOf_ok h hrep hd
        refine ⟨A, cap, h1, h2, fun hl => ?_⟩
        obtain ⟨ad, h5, h6⟩ := h4 hl
        refine ⟨ad, h5, fun j u hu => ?_⟩
        rw [List.getElem?_map] at hu
        obtain ⟨x, hx, rfl⟩ := Option.map_eq_some_iff.1 hu
        have hj := (List.getElem?_eq_some_iff.1 hx).1
        rw [h6 j hj]
        simp [List.getD_eq_getElem?_getD, hx]
      · cases hy
    · cases hy
def isSp (op : Op) : Bool := match op with
  | .call ⟨.builtin .append, _, _⟩ => true
  | .call ⟨.builtin .copy, _, _⟩ => true
  | _ => false
/-- A slice type whose elements are integers: the kind, and the elements' bytes. -/
def intSl (ty : Ty) (t : TypeId) : Option (IntKind × Nat) := (ty t).bind fun i => match i.kind with
  | .slice el => (ty el).bind fun ei => match ei.kind with
    | .int k => if 1 ≤ ei.bytes then some (k, ei.bytes) else none
    | _ => none
  | _ => none
def layAt (k : IntKind) (c : Ct) (lo : Nat) (l : List Int) : Option Ct := match c with
  | .ints k' l0 => if k' = k then some (.ints k (l0.take lo ++ l ++ l0.drop (lo + l.length))) else none
  | .vals l0 => some (.vals (l0.take lo ++ l.map (.int k) ++ l0.drop (lo + l.length)))
structure Sp where
  pre : Prop
  av : AV
  env : List (Nat × AV)
  key : Nat
  ct : Ct
def spAppend (ty : Ty) (env : List (Nat × AV)) (mem : List (Nat × Ct × Bool)) (d : Nat) (x y : Operand) (t : TypeId) : Option Sp :=
  (intSl ty t).bind fun kb => (yInts ⟨lk env, lk mem⟩ kb.1 (opd ⟨lk env, lk mem⟩ y)).bind fun l' => match opd ⟨lk env, lk mem⟩ x with
    | .v (.slice none 0 0) => match lk mem (16 * d) with
      | none => some ⟨l'.length * kb.2 ≤ 140737488355328, .ow (16 * d), env, 16 * d, .ints kb.1 l'⟩
      | some _ => none
    | .ow key => match lk mem key with
      | some (.ints k2 l, false) => if k2 = kb.1 then some ⟨(l.length + l'.length) * kb.2 ≤ 140737488355328, .ow key, killE key env, key, .ints kb.1 (l ++ l')⟩ else none
      | _ => none
    | _ => none
def spCopy (ty : Ty) (env : List (Nat × AV)) (mem : List (Nat × Ct × Bool)) (d : Nat) (x y : Operand) (t : TypeId) : Option Sp :=
  (intSl ty t).bind fun kb => (yInts ⟨lk env, lk mem⟩ kb.1 (opd ⟨lk env, lk mem⟩ y)).bind fun l' => match opd ⟨lk env, lk mem⟩ x with
    | .ow key => match lk mem key with
      | some (c, false) => (layAt kb.1 c 0 (l'.take c.len)).map fun c' => ⟨True, .v (.int .i64 (min l'.length c.len : Nat)), env, key, c'⟩
      | _ => none
    | .al key lo n => match lk mem key with
      | some (c, false) => (layAt kb.1 c lo (l'.take n)).map fun c' => ⟨True, .v (.int .i64 (min l'.length n : Nat)), env, key, c'⟩
      | _ => none
    | _ => none
def aSp (ty : Ty) (env : List (Nat × AV)) (mem : List (Nat × Ct × Bool)) (d : Nat) (op : Op) : Option Sp := match op with
  | .call ⟨.builtin .append, ⟨[x, y]⟩, ⟨[t, t']⟩⟩ => if t = t' then spAppend ty env mem d x y t else none
  | .call ⟨.builtin .copy, ⟨[x, y]⟩, ⟨[t, _]⟩⟩ => spCopy ty env mem d x y t
  | _ => none
end Go.AM
