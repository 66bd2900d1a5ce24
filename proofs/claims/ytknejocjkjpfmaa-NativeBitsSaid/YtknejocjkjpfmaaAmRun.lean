/- Part AmRun of the proof: own text. -/
import Derived.Test.YtknejocjkjpfmaaAmS19
set_option linter.all false
namespace Go.AM
variable {ty : Ty} {Γ : Gam}
instance instDecInR (k : IntKind) (n : Int) : Decidable (inR k n) := by
  cases k <;> (simp only [inR]; infer_instance)
def ldB (c : Ct) (off size : Nat) (agg : Bool) : Bool := match c with
  | .vals l => if agg then decide (off + size ≤ l.length) else decide (off < l.length)
  | .ints _ l => decide (off < l.length)
def arrB (k : IntKind) (n : Int) : Bool := !(sgn k) || decide (inR k n)
def binB (op : BinOp) (x y : Value) : Bool := match x, y with
  | .int k a, .int _ b => match op with
    | .shl => decide (0 ≤ b) && (!(sgn k) || decide (inR k (a * 2 ^ (min b.toNat k.bits))))
    | .shr => decide (0 ≤ b)
    | .add => arrB k (a + b)
    | .sub => arrB k (a - b)
    | .mul => arrB k (a * b)
    | .quo => decide (b ≠ 0) && decide (inR k (a.tdiv b))
    | .rem => decide (b ≠ 0)
    | _ => true
  | .string a, .string b => decide (a.size + b.size ≤ 9223372036854775807)
  | _, _ => true
def brB (s : St) (n : Nat) (lo hi : Option Operand) : Bool := match bracket s n lo hi with
  | some lh => decide (0 ≤ lh.1) && decide (lh.1 ≤ lh.2) && decide (lh.2 ≤ (n : Int))
  | none => true
def resB : Res → Bool
  | .one _ => true
  | .many rs => !(rs.any RV.isView && rs.any RV.isFresh)
def slB (ty : Ty) (s : St) (t : TypeId) (x : AV) (lo hi : Option Operand) : Bool := match x with
  | .v (.string b) => brB s b.size lo hi
  | .rd _ ns => brB s ns.length lo hi
  | .ow key => match s.m key with
    | some c => brB s c.1.len lo hi
    | none => true
  | .al _ _ n => brB s n lo hi
  | .v (.slice none 0 0) => brB s 0 lo hi && (match bracket s 0 lo hi with | some lh => decide (lh.1 = 0 ∧ lh.2 = 0) | none => true)
  | .ref key off => match ty t with
    | some i => match i.kind with
      | .arr n _ => match s.m key with
        | some c => brB s n lo hi && decide (off + n ≤ c.1.len)
        | none => true
      | _ => true
    | none => true
  | _ => true
def ixB (ty : Ty) (s : St) (t : TypeId) (x i : AV) : Bool := match intOf i with
  | none => true
  | some j => match x with
    | .rd _ l => decide (0 ≤ j) && decide (j < l.length)
    | .ow key => match s.m key with
      | some c => decide (0 ≤ j) && decide (j < c.1.len)
      | none => true
    | .al _ _ n => decide (0 ≤ j) && decide (j < n)
    | .ows _ n => decide (0 ≤ j) && decide (j < n)
    | .ref _ _ => match ty t with
      | some ti => match ti.kind with
        | .arr n _ => decide (0 ≤ j) && decide (j < n)
        | _ => true
      | none => true
    | .v (.string b) => decide (0 ≤ j) && decide (j < b.size)
    | .v (.agg cs) => match ty t with
      | some ti => match ti.kind with
        | .arr n e => decide (0 ≤ j) && decide (j < n) && (match ty e with | some ei => ldB (.vals cs.toList) (j.toNat * ei.size) ei.size ei.agg | none => true)
        | _ => true
      | none => true
    | _ => true
def preB (ty : Ty) (Γ : Gam) (s : St) (op : Op) : Bool := match op with
  | .load t x => match ty t, opd s x with
    | some i, .ref key off => match s.m key with
      | some c => ldB c.1 off i.size i.agg
      | none => true
    | _, _ => true
  | .binOp o _ x y _ => match opd s x, opd s y with
    | .v a, .v b => binB o a b
    | _, _ => true
  | .unOp o _ x => match o, opd s x with
    | .neg, .v (.int k n) => arrB k (0 - n)
    | _, _ => true
  | .convert _ t x => match ty t, opd s x with
    | some i, .v (.int _ n) => match i.kind with
      | .int k => arrB k n
      | _ => true
    | _, _ => true
  | .makeSlice t l c => match ty t with
    | some i => match i.kind with
      | .slice e => match ty e, opd s l, opd s c with
        | some ei, .v (.int _ n), .v (.int _ m) => decide (n = m) && decide (0 ≤ n) && decide (n * ei.bytes ≤ 140737488355328)
        | _, _, _ => true
      | _ => true
    | none => true
  | .slice t x lo hi _ => slB ty s t (opd s x) lo hi
  | .field t x f => match ty t, opd s x with
    | some i, .v (.agg cs) => match i.kind with
      | .struct fs => match fs[f]? with
        | some p => match ty p.2 with
          | some fi => ldB (.vals cs.toList) p.1 fi.size fi.agg
          | none => true
        | none => true
      | _ => true
    | _, _ => true
  | .indexAddr t x i => ixB ty s t (opd s x) (opd s i)
  | .index t x i => ixB ty s t (opd s x) (opd s i)
  | .call ⟨.value (.func f), args, _⟩ => match lk Γ f, dvs s args.toList with
    | some fs, some ds => match fs.2 ds with
      | some pr => resB pr.2
      | none => true
    | _, _ => true
  | _ => true
/-- Every contract asks nothing. -/
def Free (Γ : Gam) : Prop := ∀ f fk spec ds p r, lk Γ f = some (fk, spec) → spec ds = some (p, r) → p
theorem ldB_ok {c : Ct} {off size : Nat} {agg : Bool} {pv : Prop × Value} (h : ldAt c off size agg = some pv) (hb : ldB c off size agg = true) : pv.1 := by
  unfold ldAt at h; unfold ldB at hb
  cases c with
  | ints k l =>
    simp only at h hb
    split at h
    · cases h
    · cases h; exact of_decide_eq_true hb
  | vals l =>
    simp only at h hb
    cases hag : agg with
    | true => rw [hag, if_pos rfl] at h hb; cases h; exact of_decide_eq_true hb
    | false => rw [hag, if_neg (by decide)] at h hb; cases h; exact of_decide_eq_true hb
theorem arrB_ok {k : IntKind} {n : Int} (h : arrB k n = true) : (arr k n).1 := by
  unfold arrB at h; unfold arr
  split <;> simp_all
theorem binB_ok {op : BinOp} {x y : Value} {pv : Prop × Value} (h : bin op x y = some pv) (hb : binB op x y = true) : pv.1 := by
  unfold bin at h
  split at h
  · simp only [binB] at hb
    split at h
    · cases h; simp at hb ⊢; exact ⟨hb.1, fun hs => by simpa [hs] using hb.2⟩
    · cases h; simpa using hb
    · split at h
      · split at h <;> first | (cases h; first | trivial | exact arrB_ok hb | (simpa using hb)) | cases h
      · cases h
  · simp only [binB] at hb
    split at h <;> first | (cases h; first | trivial | (simpa using hb)) | cases h
  · split at h <;> first | (cases h; trivial) | cases h
  · split at h
    · obtain ⟨_, _, h⟩ := Option.map_eq_some_iff.1 h; subst h; trivial
    · cases h
  · cases h
theorem brB_ok {s : St} {n : Nat} {lo hi : Option Operand} {lh : Int × Int} (h : bracket s n lo hi = some lh) (hb : brB s n lo hi = true) : 0 ≤ lh.1 ∧ lh.1 ≤ lh.2 ∧ lh.2 ≤ (n : Int) := by
  unfold brB at hb
  rw [h] at hb
  simp only [Bool.and_eq_true, decide_eq_true_eq] at hb
  exact ⟨hb.1.1, hb.1.2, hb.2⟩

theorem preB_ok {s : St} {d : Nat} {op : Op} {out : Out} (hF : Free Γ) (h : aStep ty Γ s d op = some out) (hb : preB ty Γ s op = true) : out.pre := by
  unfold aStep at h
  split at h
  case h_1 => cases h; trivial
  case h_2 => cases h; trivial
  case h_3 => split at h <;> cases h; trivial
  case h_4 t => cases ht : ty t <;> rw [ht] at h <;> cases h; trivial
  case h_5 x =>
    obtain ⟨v, _, h⟩ := Option.bind_eq_some_iff.1 h
    split at h <;> cases h; trivial
  case h_6 t parts =>
    unfold stBuild at h
    obtain ⟨i, _, h⟩ := Option.bind_eq_some_iff.1 h
    split at h
    · obtain ⟨cs, _, h⟩ := Option.map_eq_some_iff.1 h; subst h; trivial
    · obtain ⟨ei, _, h⟩ := Option.bind_eq_some_iff.1 h
      obtain ⟨cs, _, h⟩ := Option.map_eq_some_iff.1 h; subst h; trivial
    · cases h
  case h_7 t n parts =>
    unfold stBuildSlice at h
    obtain ⟨i, _, h⟩ := Option.bind_eq_some_iff.1 h
    split at h
    · obtain ⟨ei, _, h⟩ := Option.bind_eq_some_iff.1 h
      split at h
      · split at h
        · obtain ⟨cs, _, h⟩ := Option.bind_eq_some_iff.1 h
          obtain ⟨l, _, h⟩ := Option.map_eq_some_iff.1 h; subst h; trivial
        · cases h
      · split at h
        · obtain ⟨cs, _, h⟩ := Option.bind_eq_some_iff.1 h
          split at h <;> cases h
          trivial
        · cases h
      · cases h
    · cases h
  case h_8 t x =>
    unfold stLoad at h
    obtain ⟨i, hi, h⟩ := Option.bind_eq_some_iff.1 h
    split at h
    · rename_i key off hx
      obtain ⟨c, hc, h⟩ := Option.bind_eq_some_iff.1 h
      obtain ⟨pv, hpv, h⟩ := Option.map_eq_some_iff.1 h
      subst h
      simp only [preB, hi, hx, hc] at hb
      exact ldB_ok hpv hb
    · split at h <;> cases h; trivial
    · cases h
  case h_9 o t x y _ =>
    unfold stBin at h
    split at h
    · obtain ⟨i, _, h⟩ := Option.bind_eq_some_iff.1 h
      split at h
      · split at h
        · obtain ⟨_, _, h⟩ := Option.map_eq_some_iff.1 h; subst h; trivial
        · obtain ⟨_, _, h⟩ := Option.map_eq_some_iff.1 h; subst h; trivial
        · cases h
      · cases h
    · rename_i a b _ hx hy
      split at h
      · obtain ⟨pv, hpv, h⟩ := Option.map_eq_some_iff.1 h
        subst h
        simp only [preB, hx, hy] at hb
        exact binB_ok hpv hb
      · cases h
    · cases h
  case h_10 o _ x =>
    unfold stUn at h
    split at h
    · rename_i a hx
      obtain ⟨pv, hpv, h⟩ := Option.map_eq_some_iff.1 h
      subst h
      simp only [preB, hx] at hb
      unfold un at hpv
      split at hpv
      · cases hpv; trivial
      · cases hpv; simp only at hb; exact arrB_ok hb
      · split at hpv <;> cases hpv; trivial
      · cases hpv
    · cases h
  case h_11 t0 t x =>
    unfold stConv at h
    obtain ⟨_, _, h⟩ := Option.bind_eq_some_iff.1 h
    obtain ⟨i, hi, h⟩ := Option.bind_eq_some_iff.1 h
    split at h
    · rename_i k a hk hx
      obtain ⟨pv, hpv, h⟩ := Option.map_eq_some_iff.1 h
      subst h
      unfold conv at hpv
      split at hpv
      · cases hpv
        simp only [preB, hi, hx, hk] at hb
        exact arrB_ok hb
      · obtain ⟨_, _, h⟩ := Option.map_eq_some_iff.1 hpv; subst h; trivial
      · cases hpv
    · obtain ⟨_, _, h⟩ := Option.map_eq_some_iff.1 h; subst h; trivial
    · cases h
  case h_12 t l c =>
    unfold stMake at h
    obtain ⟨i, hi, h⟩ := Option.bind_eq_some_iff.1 h
    split at h
    · rename_i e hk
      obtain ⟨ei, hei, h⟩ := Option.bind_eq_some_iff.1 h
      split at h
      · split at h
        · rename_i hl hc
          cases h
          simp only [preB, hi, hk, hei, hl, hc, Bool.and_eq_true, decide_eq_true_eq] at hb
          exact ⟨hb.1.1, hb.1.2, hb.2⟩
        · cases h
      · cases h
    · cases h
  case h_13 t x lo hi =>
    unfold stSlice at h
    simp only [preB, slB] at hb
    split at h
    · rename_i b hx
      split at h
      · obtain ⟨lh, hlh, h⟩ := Option.map_eq_some_iff.1 h
        subst h
        simp only [hx] at hb
        exact brB_ok hlh hb
      · cases h
    · rename_i k ns hx
      split at h
      · obtain ⟨lh, hlh, h⟩ := Option.map_eq_some_iff.1 h
        subst h
        simp only [hx] at hb
        exact brB_ok hlh hb
      · cases h
    · rename_i key hx
      split at h
      · obtain ⟨c, hc, h⟩ := Option.bind_eq_some_iff.1 h
        obtain ⟨lh, hlh, h⟩ := Option.map_eq_some_iff.1 h
        subst h
        simp only [hx, hc] at hb
        exact brB_ok hlh hb
      · cases h
    · rename_i key o n hx
      split at h
      · obtain ⟨lh, hlh, h⟩ := Option.map_eq_some_iff.1 h
        subst h
        simp only [hx] at hb
        exact brB_ok hlh hb
      · cases h
    · rename_i hx
      split at h
      · obtain ⟨lh, hlh, h⟩ := Option.map_eq_some_iff.1 h
        subst h
        simp only [hx, hlh, Bool.and_eq_true, decide_eq_true_eq] at hb
        exact hb.2
      · cases h
    · rename_i key off hx
      obtain ⟨i, hi', h⟩ := Option.bind_eq_some_iff.1 h
      split at h
      · rename_i n e hk
        obtain ⟨ei, _, h⟩ := Option.bind_eq_some_iff.1 h
        split at h
        · obtain ⟨c, hc, h⟩ := Option.bind_eq_some_iff.1 h
          obtain ⟨lh, hlh, h⟩ := Option.map_eq_some_iff.1 h
          subst h
          simp only [hx, hi', hk, hc, hlh, Bool.and_eq_true, decide_eq_true_eq] at hb
          exact ⟨brB_ok hlh hb.1, hb.2⟩
        · cases h
      · cases h
    · cases h
  case h_14 =>
    unfold stFieldAddr at h
    obtain ⟨i, _, h⟩ := Option.bind_eq_some_iff.1 h
    split at h
    · obtain ⟨p, _, h⟩ := Option.map_eq_some_iff.1 h; subst h; trivial
    · cases h
  case h_15 t x f =>
    unfold stField at h
    obtain ⟨i, hi, h⟩ := Option.bind_eq_some_iff.1 h
    split at h
    · rename_i fs cs hk hx
      obtain ⟨p, hp, h⟩ := Option.bind_eq_some_iff.1 h
      obtain ⟨fi, hfi, h⟩ := Option.bind_eq_some_iff.1 h
      obtain ⟨pv, hpv, h⟩ := Option.map_eq_some_iff.1 h
      subst h
      simp only [preB, hi, hx, hk, hp, hfi] at hb
      exact ldB_ok hpv hb
    · cases h
  case h_16 t x i =>
    unfold stIndexAddr at h
    obtain ⟨j, hj, h⟩ := Option.bind_eq_some_iff.1 h
    simp only [preB, ixB, hj] at hb
    split at h
    · rename_i hx
      split at h
      · cases h; simp only [hx, Bool.and_eq_true, decide_eq_true_eq] at hb; exact hb
      · cases h
    · rename_i hx
      split at h
      · obtain ⟨c, hc, h⟩ := Option.map_eq_some_iff.1 h
        subst h
        simp only [hx, hc, Bool.and_eq_true, decide_eq_true_eq] at hb; exact hb
      · cases h
    · rename_i hx
      split at h
      · cases h; simp only [hx, Bool.and_eq_true, decide_eq_true_eq] at hb; exact hb
      · cases h
    · rename_i hx
      obtain ⟨ti, hti, h⟩ := Option.bind_eq_some_iff.1 h
      split at h
      · obtain ⟨ei, _, h⟩ := Option.map_eq_some_iff.1 h
        subst h
        simp only [hx, Bool.and_eq_true, decide_eq_true_eq] at hb; exact hb
      · cases h
    · rename_i hx
      obtain ⟨ti, hti, h⟩ := Option.bind_eq_some_iff.1 h
      split at h
      · rename_i n e hk
        obtain ⟨ei, _, h⟩ := Option.map_eq_some_iff.1 h
        subst h
        simp only [hx, hti, hk, Bool.and_eq_true, decide_eq_true_eq] at hb; exact hb
      · cases h
    · cases h
  case h_17 t x i =>
    unfold stIndex at h
    obtain ⟨j, hj, h⟩ := Option.bind_eq_some_iff.1 h
    simp only [preB, ixB, hj] at hb
    split at h
    · rename_i hx
      split at h
      · cases h; simp only [hx, Bool.and_eq_true, decide_eq_true_eq] at hb; exact hb
      · cases h
    · rename_i cs hx
      obtain ⟨ti, hti, h⟩ := Option.bind_eq_some_iff.1 h
      split at h
      · rename_i n e hk
        obtain ⟨ei, hei, h⟩ := Option.bind_eq_some_iff.1 h
        obtain ⟨pv, hpv, h⟩ := Option.map_eq_some_iff.1 h
        subst h
        simp only [hx, hti, hk, hei, Bool.and_eq_true, decide_eq_true_eq] at hb
        exact ⟨hb.1, ldB_ok hpv hb.2⟩
      · cases h
    · cases h
  case h_18 =>
    unfold stExtract at h
    split at h
    · obtain ⟨a, _, h⟩ := Option.map_eq_some_iff.1 h; subst h; trivial
    · cases h
  case h_19 x t =>
    unfold stLen at h
    split at h
    · split at h <;> cases h; trivial
    · split at h
      · obtain ⟨a, _, h⟩ := Option.map_eq_some_iff.1 h; subst h; trivial
      · cases h
  case h_20 => unfold stMax at h; split at h <;> cases h; trivial
  case h_21 => unfold stMin at h; split at h <;> cases h; trivial
  case h_22 f args _ =>
    unfold stCall at h
    obtain ⟨⟨fk, spec⟩, h1, h⟩ := Option.bind_eq_some_iff.1 h
    obtain ⟨ds, h2, h⟩ := Option.bind_eq_some_iff.1 h
    obtain ⟨⟨p, r⟩, h3, h⟩ := Option.map_eq_some_iff.1 h
    have hp := hF f fk spec ds p r h1 h3
    subst h
    have h3' : spec ds = some (p, r) := h3
    simp only [preB, h1, h2, h3'] at hb
    cases r with
    | one r => exact hp
    | many rs =>
      refine ⟨hp, fun hc => ?_⟩
      simp only [resB, hc.1, hc.2] at hb
      cases hb
  case h_23 => cases h
end Go.AM
