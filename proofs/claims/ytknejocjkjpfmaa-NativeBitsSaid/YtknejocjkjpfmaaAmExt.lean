/- Part AmExt of the proof: own text. -/
import Derived.Test.YtknejocjkjpfmaaAmEq
import Derived.Laws.Externs
set_option linter.all false
namespace Go.AM
variable {P : Program}
def sF64bits : CSpec := fun ds => match ds with
  | [.v (.float .f64 b)] => some (True, .one (.v (.int .u64 b)))
  | _ => none
def sF64from : CSpec := fun ds => match ds with
  | [.v (.int .u64 n)] => some (True, .one (.v (.float .f64 n.toNat)))
  | _ => none
def sF32bits : CSpec := fun ds => match ds with
  | [.v (.float .f32 b)] => some (True, .one (.v (.int .u32 b)))
  | _ => none
def sF32from : CSpec := fun ds => match ds with
  | [.v (.int .u32 n)] => some (True, .one (.v (.float .f32 n.toNat)))
  | _ => none
def sAdd64 : CSpec := fun ds => match ds with
  | [.v (.int .u64 x), .v (.int .u64 y), .v (.int .u64 c)] => some (0 ≤ x ∧ 0 ≤ y ∧ 0 ≤ c ∧ c ≤ 1, .many [.v (.int .u64 ((x + y + c) % 18446744073709551616)), .v (.int .u64 ((x + y + c) / 18446744073709551616))])
  | _ => none
def sSub64 : CSpec := fun ds => match ds with
  | [.v (.int .u64 x), .v (.int .u64 y), .v (.int .u64 c)] => some (0 ≤ x ∧ x < 18446744073709551616 ∧ 0 ≤ y ∧ y < 18446744073709551616 ∧ 0 ≤ c ∧ c ≤ 1, .many [.v (.int .u64 ((x - y - c) % 18446744073709551616)), .v (.int .u64 (if x < y + c then 1 else 0))])
  | _ => none
def sAdd64B : CSpec := fun ds => match ds with
  | [.v (.int .u64 x), .v (.int .u64 y), .v (.int .u64 c)] => if 0 ≤ x ∧ 0 ≤ y ∧ 0 ≤ c ∧ c ≤ 1 then some (True, .many [.v (.int .u64 ((x + y + c) % 18446744073709551616)), .v (.int .u64 ((x + y + c) / 18446744073709551616))]) else none
  | _ => none
def sSub64B : CSpec := fun ds => match ds with
  | [.v (.int .u64 x), .v (.int .u64 y), .v (.int .u64 c)] => if 0 ≤ x ∧ x < 18446744073709551616 ∧ 0 ≤ y ∧ y < 18446744073709551616 ∧ 0 ≤ c ∧ c ≤ 1 then some (True, .many [.v (.int .u64 ((x - y - c) % 18446744073709551616)), .v (.int .u64 (if x < y + c then 1 else 0))]) else none
  | _ => none
theorem RepDs.v1 {w : World} {x : Value} {vs : List Value} (h : RepDs w [.v x] vs) : vs = [x] := by
  match vs, h with
  | [v], ⟨h1, _⟩ => exact congrArg (fun z => [z]) h1
theorem RepDs.v3 {w : World} {x y z : Value} {vs : List Value} (h : RepDs w [.v x, .v y, .v z] vs) : vs = [x, y, z] := by
  match vs, h with
  | [v1, v2, v3], ⟨h1, h2, h3, _⟩ =>
    have e1 : v1 = x := h1
    have e2 : v2 = y := h2
    have e3 : v3 = z := h3
    rw [e1, e2, e3]
section
variable {f : Nat} {fn : Func} {e : Array Value → Sem Value}
/-- One value in, one value out. -/
theorem ext1 (hf : P.funcs[f]? = some fn) (hname : (fn.name == "runtime.NumGoroutine") = false) (hb : fn.body.isNone = true) (hn : Extern.findNext fn = none) (he : Extern.find fn = some e) {spec : CSpec}
    (H : ∀ ds p r, spec ds = some (p, r) → p → ∃ x y, ds = [.v x] ∧ r = .one (.v y) ∧ ∀ w, (e #[x]).run P w = .ok y w) : Sound P f .ext spec := by
  intro ds p r hs hp w vs hr
  obtain ⟨x, y, rfl, rfl, h⟩ := H ds p r hs hp
  obtain rfl := hr.v1
  refine ⟨y, ?_, rfl, trivial⟩
  rw [run_callFunc_extern hf hname hb hn he]
  have := h w
  simp only [List.toArray] at this ⊢
  simp [this]
theorem ext3 (hf : P.funcs[f]? = some fn) (hname : (fn.name == "runtime.NumGoroutine") = false) (hb : fn.body.isNone = true) (hn : Extern.findNext fn = none) (he : Extern.find fn = some e) {spec : CSpec}
    (H : ∀ ds p r, spec ds = some (p, r) → p → ∃ x y z u v, ds = [.v x, .v y, .v z] ∧ r = .many [.v u, .v v] ∧ ∀ w, (e #[x, y, z]).run P w = .ok (.tuple #[u, v]) w) : Sound P f .ext spec := by
  intro ds p r hs hp w vs hr
  obtain ⟨x, y, z, u, v, rfl, rfl, h⟩ := H ds p r hs hp
  obtain rfl := hr.v3
  refine ⟨.tuple #[u, v], ?_, ⟨[u, v], rfl, ⟨rfl, rfl, trivial⟩, by simp [freshBs]⟩, fun r hr => by
    simp only [List.mem_cons, List.not_mem_nil, or_false] at hr
    rcases hr with rfl | rfl
    · exact ⟨u, rfl⟩
    · exact ⟨v, rfl⟩⟩
  rw [run_callFunc_extern hf hname hb hn he]
  have := h w
  simp [this]
end
def sub64Entry : Array Value → Sem Value := fun args => do
  let (x, y, b) ← Extern.MathBitsCarry.three "Sub64" args
  pure (Extern.MathBitsCarry.pair ((x + Extern.MathBitsCarry.m64 - y - b) % Extern.MathBitsCarry.m64) (if x < y + b then 1 else 0))
theorem run_sub64 {P : Program} (x y c : Int) (hx : 0 ≤ x) (hx1 : x < 18446744073709551616) (hy : 0 ≤ y) (hy1 : y < 18446744073709551616) (hc0 : 0 ≤ c) (hc : c ≤ 1) (w : World) :
    (sub64Entry #[.int .u64 x, .int .u64 y, .int .u64 c]).run P w =
      .ok (.tuple #[.int .u64 ((x - y - c) % 18446744073709551616), .int .u64 (if x < y + c then 1 else 0)]) w := by
  have key : ∀ k : Nat, k ≤ 1 → (sub64Entry #[.int .u64 x, .int .u64 y, .int .u64 (k : Int)]).run P w =
      .ok (Extern.MathBitsCarry.pair ((x.toNat + Extern.MathBitsCarry.m64 - y.toNat - k) % Extern.MathBitsCarry.m64) (if x.toNat < y.toNat + k then 1 else 0)) w := by
    intro k hk
    have : k = 0 ∨ k = 1 := by omega
    rcases this with rfl | rfl <;> rfl
  obtain ⟨k, rfl⟩ := Int.eq_ofNat_of_zero_le hc0
  rw [key k (by omega)]
  obtain ⟨X, rfl⟩ := Int.eq_ofNat_of_zero_le hx
  obtain ⟨Y, rfl⟩ := Int.eq_ofNat_of_zero_le hy
  simp only [Extern.MathBitsCarry.pair, Extern.MathBitsCarry.m64, Int.toNat_natCast]
  have h1 : Int.ofNat ((X + 2 ^ 64 - Y - k) % 2 ^ 64) = ((X : Int) - Y - k) % 18446744073709551616 := by
    have : ((X + 2 ^ 64 - Y - k : Nat) : Int) = X - Y - k + 18446744073709551616 := by omega
    show ((((X + 2 ^ 64 - Y - k) % 2 ^ 64 : Nat)) : Int) = _
    rw [Int.natCast_emod, this]
    show ((X : Int) - Y - k + 18446744073709551616) % 18446744073709551616 = _
    omega
  have h2 : Int.ofNat (if X < Y + k then 1 else 0) = if (X : Int) < Y + k then 1 else 0 := by
    by_cases h : X < Y + k
    · rw [if_pos h, if_pos (by omega)]; rfl
    · rw [if_neg h, if_neg (by omega)]; rfl
  rw [h1, h2]
section
variable {f : Nat} {fn : Func}
theorem sound_f64bits (hf : P.funcs[f]? = some fn) (hname : (fn.name == "runtime.NumGoroutine") = false) (hb : fn.body.isNone = true) (hn : Extern.findNext fn = none) (he : Extern.find fn = some Extern.MathFloatBits.float64bits) : Sound P f .ext sF64bits :=
  ext1 hf hname hb hn he fun ds p r hs hp => by
    unfold sF64bits at hs
    split at hs
    · cases hs; exact ⟨_, _, rfl, rfl, fun w => rfl⟩
    · cases hs
theorem sound_f64from (hf : P.funcs[f]? = some fn) (hname : (fn.name == "runtime.NumGoroutine") = false) (hb : fn.body.isNone = true) (hn : Extern.findNext fn = none) (he : Extern.find fn = some Extern.MathFloatBits.float64frombits) : Sound P f .ext sF64from :=
  ext1 hf hname hb hn he fun ds p r hs hp => by
    unfold sF64from at hs
    split at hs
    · cases hs; exact ⟨_, _, rfl, rfl, fun w => rfl⟩
    · cases hs
theorem sound_f32bits (hf : P.funcs[f]? = some fn) (hname : (fn.name == "runtime.NumGoroutine") = false) (hb : fn.body.isNone = true) (hn : Extern.findNext fn = none) (he : Extern.find fn = some Extern.MathFloatBits.float32bits) : Sound P f .ext sF32bits :=
  ext1 hf hname hb hn he fun ds p r hs hp => by
    unfold sF32bits at hs
    split at hs
    · cases hs; exact ⟨_, _, rfl, rfl, fun w => rfl⟩
    · cases hs
theorem sound_f32from (hf : P.funcs[f]? = some fn) (hname : (fn.name == "runtime.NumGoroutine") = false) (hb : fn.body.isNone = true) (hn : Extern.findNext fn = none) (he : Extern.find fn = some Extern.MathFloatBits.float32frombits) : Sound P f .ext sF32from :=
  ext1 hf hname hb hn he fun ds p r hs hp => by
    unfold sF32from at hs
    split at hs
    · cases hs; exact ⟨_, _, rfl, rfl, fun w => rfl⟩
    · cases hs
theorem sound_add64 (hf : P.funcs[f]? = some fn) (hname : (fn.name == "runtime.NumGoroutine") = false) (hb : fn.body.isNone = true) (hn : Extern.findNext fn = none) (he : Extern.find fn = some add64Entry) : Sound P f .ext sAdd64 :=
  ext3 hf hname hb hn he fun ds p r hs hp => by
    unfold sAdd64 at hs
    split at hs
    · cases hs
      obtain ⟨h1, h2, h3, h4⟩ := hp
      exact ⟨_, _, _, _, _, rfl, rfl, fun w => run_add64 _ _ _ h1 h2 h3 h4 w⟩
    · cases hs
theorem sound_sub64 (hf : P.funcs[f]? = some fn) (hname : (fn.name == "runtime.NumGoroutine") = false) (hb : fn.body.isNone = true) (hn : Extern.findNext fn = none) (he : Extern.find fn = some sub64Entry) : Sound P f .ext sSub64 :=
  ext3 hf hname hb hn he fun ds p r hs hp => by
    unfold sSub64 at hs
    split at hs
    · cases hs
      obtain ⟨h1, h2, h3, h4, h5, h6⟩ := hp
      exact ⟨_, _, _, _, _, rfl, rfl, fun w => run_sub64 _ _ _ h1 h2 h3 h4 h5 h6 w⟩
    · cases hs
end
theorem sound_weaken {f : Nat} {fk : Fk} {spec spec' : CSpec} (h : Sound P f fk spec) (hs : ∀ ds p r, spec' ds = some (p, r) → p → ∃ q, spec ds = some (q, r) ∧ q) : Sound P f fk spec' := by
  cases fk with
  | body =>
    obtain ⟨fn, h1, h2, h3, h4⟩ := h
    refine ⟨fn, h1, h2, h3, fun ds p r h5 h6 => ?_⟩
    obtain ⟨q, h7, h8⟩ := hs ds p r h5 h6
    exact h4 ds q r h7 h8
  | ext =>
    intro ds p r h5 h6
    obtain ⟨q, h7, h8⟩ := hs ds p r h5 h6
    exact h ds q r h7 h8
theorem sound_add64B {f : Nat} (h : Sound P f .ext sAdd64) : Sound P f .ext sAdd64B := sound_weaken h fun ds p r hs hp => by
  unfold sAdd64B at hs
  split at hs
  · split at hs
    · rename_i hc; cases hs; exact ⟨_, rfl, hc⟩
    · cases hs
  · cases hs
theorem sound_sub64B {f : Nat} (h : Sound P f .ext sSub64) : Sound P f .ext sSub64B := sound_weaken h fun ds p r hs hp => by
  unfold sSub64B at hs
  split at hs
  · split at hs
    · rename_i hc; cases hs; exact ⟨_, rfl, hc⟩
    · cases hs
  · cases hs
theorem sF64bits_free {ds : List DV} {p : Prop} {r : Res} (h : sF64bits ds = some (p, r)) : p := by
  unfold sF64bits at h
  split at h <;> cases h
  trivial
theorem sF64from_free {ds : List DV} {p : Prop} {r : Res} (h : sF64from ds = some (p, r)) : p := by
  unfold sF64from at h
  split at h <;> cases h
  trivial
theorem sF32bits_free {ds : List DV} {p : Prop} {r : Res} (h : sF32bits ds = some (p, r)) : p := by
  unfold sF32bits at h
  split at h <;> cases h
  trivial
theorem sF32from_free {ds : List DV} {p : Prop} {r : Res} (h : sF32from ds = some (p, r)) : p := by
  unfold sF32from at h
  split at h <;> cases h
  trivial
theorem sAdd64B_free {ds : List DV} {p : Prop} {r : Res} (h : sAdd64B ds = some (p, r)) : p := by
  unfold sAdd64B at h
  split at h
  · split at h <;> cases h
    trivial
  · cases h
theorem sSub64B_free {ds : List DV} {p : Prop} {r : Res} (h : sSub64B ds = some (p, r)) : p := by
  unfold sSub64B at h
  split at h
  · split at h <;> cases h
    trivial
  · cases h
end Go.AM
