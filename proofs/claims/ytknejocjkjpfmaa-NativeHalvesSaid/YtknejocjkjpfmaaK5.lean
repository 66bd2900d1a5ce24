/- Part 5 of the proof: own text (LN22, LN23, FdescOf, FmathbitsLen64, FlimbsLen, FdescBinary, Fbinaryand, FlimbsShr, FlimbsShl, FlimbsSub, FlimbsOf, Fbinarymask, FbinaryField, FlimbsBit, Fbinaryor, FbinaryLay). -/
import Derived.Test.YtknejocjkjpfmaaK0
import Derived.Test.YtknejocjkjpfmaaK1
import Derived.Test.YtknejocjkjpfmaaK2
import Derived.Test.YtknejocjkjpfmaaK3
import Derived.Test.YtknejocjkjpfmaaK4
set_option linter.all false
set_option maxRecDepth 20000
namespace Go.AM.LN
def upS (dir : Int) (sign odd : Bool) (half : Int) : Bool := if dir = 0 then decide (half > 0) || (half == 0 && odd) else if dir = 1 then decide (half ≥ 0) else if dir = 3 then !sign else if dir = 4 then sign else false
def divS (dir : Int) (sign : Bool) (x y : Nat) : Nat × Bool := if x % y = 0 then (x / y, true) else (if upS dir sign (x / y % 2 == 1) (cmpI (x % y) (y - x % y)) then x / y + 1 else x / y, false)
theorem divS_ex {d : Int} {s : Bool} {x y : Nat} (h : x % y = 0) : divS d s x y = (x / y, true) := if_pos h
theorem divS_up {d : Int} {s : Bool} {x y : Nat} (h : ¬ x % y = 0) (hu : upS d s (x / y % 2 == 1) (cmpI (x % y) (y - x % y)) = true) : divS d s x y = (x / y + 1, false) := by
  unfold divS; rw [if_neg h, if_pos hu]
theorem divS_dn {d : Int} {s : Bool} {x y : Nat} (h : ¬ x % y = 0) (hu : upS d s (x / y % 2 == 1) (cmpI (x % y) (y - x % y)) = false) : divS d s x y = (x / y, false) := by
  unfold divS; rw [if_neg h, if_neg (by rw [hu]; exact Bool.false_ne_true)]
theorem odd0 {q : Nat} (h : q = 0) : (q % 2 == 1) = false := by subst h; rfl

def infS (d : Int) (s : Bool) : Bool := if d = 0 then true else if d = 1 then true else if d = 3 then !s else if d = 4 then s else false

end Go.AM.LN
set_option maxRecDepth 20000
namespace Go.AM.LN
open Go
/-! The twelve formats. -/
def fnm (n : Int) : ByteArray := ([⟨#[]⟩, ⟨#[72, 97, 108, 102]⟩, ⟨#[66, 114, 97, 105, 110]⟩, ⟨#[83, 105, 110, 103, 108, 101]⟩, ⟨#[68, 111, 117, 98, 108, 101]⟩, ⟨#[81, 117, 97, 100]⟩, ⟨#[79, 99, 116, 111]⟩, ⟨#[80, 108, 97, 105, 110, 51, 50]⟩, ⟨#[80, 108, 97, 105, 110, 54, 52]⟩, ⟨#[80, 108, 97, 105, 110, 49, 50, 56]⟩, ⟨#[68, 101, 110, 115, 101, 51, 50]⟩, ⟨#[68, 101, 110, 115, 101, 54, 52]⟩, ⟨#[68, 101, 110, 115, 101, 49, 50, 56]⟩] : List ByteArray).getD n.toNat ⟨#[]⟩
def fp (n : Int) : Int := [0, 11, 8, 24, 53, 113, 241, 7, 16, 34, 7, 16, 34].getD n.toNat 0
def fx (n : Int) : Int := [0, 5, 8, 8, 11, 15, 15, 96, 384, 6144, 96, 384, 6144].getD n.toNat 0
def fe (n : Int) : Int := [0, 15, 127, 127, 1023, 16383, 16383, 96, 384, 6144, 96, 384, 6144].getD n.toNat 0
def fb (n : Int) : Int := [0, 2, 2, 2, 2, 2, 2, 10, 10, 10, 10, 10, 10].getD n.toNat 0
def fw (n : Int) : Int := [0, 16, 16, 32, 64, 128, 256, 32, 64, 128, 32, 64, 128].getD n.toNat 0
def fl (n : Int) : Int := [0, 9, 6, 22, 51, 111, 239, 6, 15, 33, 6, 15, 33].getD n.toNat 0
def fd (n : Int) : Bool := decide (10 ≤ n)
def infoT (n : Int) : Value := .agg #[.int .i64 n, .string (fnm n), .int .i64 (fb n), .int .i64 (fw n), .int .i64 (fp n), .int .i64 (fx n), .int .i64 (2 - fe n - fp n), .int .i64 (fe n + 1 - fp n), .int .i64 (fl n), .bool (fd n)]
def infoZ : Value := .agg #[.int .i64 0, .string ⟨#[]⟩, .int .i64 0, .int .i64 0, .int .i64 0, .int .i64 0, .int .i64 0, .int .i64 0, .int .i64 0, .bool false]
def infoV (n : Int) : Value := if 1 ≤ n ∧ n ≤ 12 then infoT n else infoZ
def errV (n : Int) : Int := if 1 ≤ n ∧ n ≤ 12 then 0 else 1
theorem infoV_in {n : Int} (h : 1 ≤ n ∧ n ≤ 12) : infoV n = infoT n := if_pos h
theorem infoV_out {n : Int} (h : ¬ (1 ≤ n ∧ n ≤ 12)) : infoV n = infoZ := if_neg h
theorem errV_in {n : Int} (h : 1 ≤ n ∧ n ≤ 12) : errV n = 0 := if_pos h
theorem errV_out {n : Int} (h : ¬ (1 ≤ n ∧ n ≤ 12)) : errV n = 1 := if_neg h
/-- What is known of a binary format. -/
structure BF (n : Int) : Prop where
  p8 : 8 ≤ fp n
  p241 : fp n ≤ 241
  x5 : 5 ≤ fx n
  x15 : fx n ≤ 15
  e15 : 15 ≤ fe n
  e16 : fe n ≤ 16383
  b2 : fb n = 2
  w : fw n = fp n + fx n
  l : fl n = fp n - 2
  ee : (2 : Int) ^ (fx n).toNat = 2 * fe n + 2
  nd : fd n = false
theorem bfmt {n : Int} (h : 1 ≤ n ∧ n ≤ 6) : BF n := by
  have hn : n = 1 ∨ n = 2 ∨ n = 3 ∨ n = 4 ∨ n = 5 ∨ n = 6 := by omega
  rcases hn with rfl | rfl | rfl | rfl | rfl | rfl <;> exact ⟨by decide, by decide, by decide, by decide, by decide, by decide, by decide, by decide, by decide, by decide, by decide⟩
theorem dfmt {n : Int} (h : 7 ≤ n ∧ n ≤ 12) : fb n = 10 := by
  have hn : n = 7 ∨ n = 8 ∨ n = 9 ∨ n = 10 ∨ n = 11 ∨ n = 12 := by omega
  rcases hn with rfl | rfl | rfl | rfl | rfl | rfl <;> rfl
def okB (n : Int) (V : Nat) : Bool := decide (1 ≤ n ∧ n ≤ 6) && decide ((blen V : Int) ≤ fw n)
/-! Patterns. -/
def eS (cl n : Int) (C : Nat) (ex : Int) : Int := if cl = 1 then (if (blen C : Int) = fp n then ex - (2 - fe n - fp n) + 1 else 0) else 2 ^ (fx n).toNat - 1
def packF (n cl : Int) (si : Bool) (C : Nat) : Nat := if cl = 3 ∧ si = false then C % 2 ^ (fp n - 1).toNat ||| (1 * 2 ^ (fp n - 2).toNat % 2 ^ 256) else C % 2 ^ (fp n - 1).toNat
def packB (n cl : Int) (si : Bool) (C : Nat) (ex : Int) : Nat := packF n cl si C ||| ((eS cl n C ex).toNat * 2 ^ (fp n - 1).toNat % 2 ^ 256)
def packS (n cl : Int) (sg si : Bool) (C : Nat) (ex : Int) : Nat := if sg then packB n cl si C ex ||| (1 * 2 ^ (fw n - 1).toNat % 2 ^ 256) else packB n cl si C ex
/-- packS, the field X being known. -/
def packX (n cl : Int) (sg si : Bool) (C X : Nat) (ex : Int) : Nat :=
  let B := (if cl = 3 ∧ si = false then X ||| (1 * 2 ^ (fp n - 2).toNat % 2 ^ 256) else X) ||| ((eS cl n C ex).toNat * 2 ^ (fp n - 1).toNat % 2 ^ 256)
  if sg then B ||| (1 * 2 ^ (fw n - 1).toNat % 2 ^ 256) else B
/-- A datum of a format. -/
def isD (n cl : Int) (si : Bool) (C : Nat) (ex : Int) : Prop :=
  (cl = 1 ∧ si = false ∧ 2 - fe n - fp n ≤ ex ∧ ex ≤ fe n + 1 - fp n ∧ ((blen C : Int) = fp n ∨ ((blen C : Int) < fp n ∧ ex = 2 - fe n - fp n))) ∨
  (cl = 2 ∧ si = false ∧ blen C = 0 ∧ ex = 0) ∨ (cl = 3 ∧ ex = 0 ∧ (blen C : Int) ≤ fl n ∧ (blen C ≠ 0 ∨ si = false))
theorem V4_x (x : Int) : V4 x 0 0 0 = x.toNat := by unfold V4; simp [val]
theorem or_lt {x y : Nat} (hx : x < 2 ^ 256) (hy : y < 2 ^ 256) : x ||| y < 2 ^ 256 := Nat.or_lt_two_pow hx hy
theorem mod_lt256 (x : Nat) : x % 2 ^ 256 < 2 ^ 256 := Nat.mod_lt _ (Nat.two_pow_pos _)
theorem w4_small {E : Nat} (h : E < 18446744073709551616) : w4 E 0 = (E : Int) := by
  unfold w4; rw [Nat.mul_zero, Nat.pow_zero, Nat.div_one, Nat.mod_eq_of_lt h]
theorem w4_zero (i : Nat) : w4 0 i = 0 := by unfold w4; simp
theorem V4_zero {a b c d : Int} (ha : 0 ≤ a) (hb : 0 ≤ b) (hc : 0 ≤ c) (hd : 0 ≤ d) : (a == 0 && (b == 0 && (c == 0 && d == 0))) = decide (V4 a b c d = 0) := by
  have h := V4_int ha hb hc hd
  rw [Bool.eq_iff_iff]
  simp only [Bool.and_eq_true, beq_iff_eq, decide_eq_true_eq]
  omega
/-! What a pattern means. -/
def uE (n : Int) (V : Nat) : Nat := V / 2 ^ (fp n - 1).toNat % 2 ^ (fx n).toNat
def uF (n : Int) (V : Nat) : Nat := V % 2 ^ (fp n - 1).toNat
def uS (n : Int) (V : Nat) : Bool := V / 2 ^ (fw n - 1).toNat % 2 == 1
def uC (n : Int) (V : Nat) : Int := if (uE n V : Int) < 2 ^ (fx n).toNat - 1 then 1 else if uF n V = 0 then 2 else 3
def uQ (n : Int) (V : Nat) : Bool := decide (uC n V = 3) && (V / 2 ^ (fp n - 2).toNat % 2 == 0)
def uX (n : Int) (V : Nat) : Int := if uC n V = 1 then 2 - fe n - fp n + max ((uE n V : Int) - 1) 0 else 0
def uV (n : Int) (V : Nat) : Nat := if uC n V = 1 then (if uE n V = 0 then uF n V else uF n V ||| 1 * 2 ^ (fp n - 1).toNat % 2 ^ 256) else if uC n V = 2 then 0 else uF n V % 2 ^ (fp n - 2).toNat
end Go.AM.LN
set_option maxRecDepth 20000
namespace Go.Proofs.AMT
open Go.AM Go.AM.LN
attribute [local congr] bindO_congr bindS_congr bindG_congr awpOps_congr aOne_congr awp_congr aCond_congr awpD_congr dOne_congr keysB_congr nOne_congr thenP_congr blockP_congr Chk_congr Brk_congr
noncomputable def s39 : CSpec := fun ds => match ds with
  | [.v (.int .i64 n)] => some (True, .many [.v (infoV n), .v (.int .i64 (errV n))])
  | _ => none
theorem s39_eq (n : Int) : norm s39 [.v (.int .i64 n)] = some (True, .many [.v (infoV n), .v (.int .i64 (errV n))]) := rfl
noncomputable def G39 : Gam := []
theorem G39_ok : GamOk Try.prog G39 := gamOk_nil
noncomputable def ofR (n : Int) : Option (Prop × Res) := (lk (GamN ty 1000 bodies extB 10) 39).bind fun s => s.2 [.v (.int .i64 n)]
theorem ofR_1 : ofR 1 = some (True, .many [.v (infoT 1), .v (.int .i64 0)]) := by kernel_rfl
theorem ofR_2 : ofR 2 = some (True, .many [.v (infoT 2), .v (.int .i64 0)]) := by kernel_rfl
theorem ofR_3 : ofR 3 = some (True, .many [.v (infoT 3), .v (.int .i64 0)]) := by kernel_rfl
theorem ofR_4 : ofR 4 = some (True, .many [.v (infoT 4), .v (.int .i64 0)]) := by kernel_rfl
theorem ofR_5 : ofR 5 = some (True, .many [.v (infoT 5), .v (.int .i64 0)]) := by kernel_rfl
theorem ofR_6 : ofR 6 = some (True, .many [.v (infoT 6), .v (.int .i64 0)]) := by kernel_rfl
theorem ofR_7 : ofR 7 = some (True, .many [.v (infoT 7), .v (.int .i64 0)]) := by kernel_rfl
theorem ofR_8 : ofR 8 = some (True, .many [.v (infoT 8), .v (.int .i64 0)]) := by kernel_rfl
theorem ofR_9 : ofR 9 = some (True, .many [.v (infoT 9), .v (.int .i64 0)]) := by kernel_rfl
theorem ofR_10 : ofR 10 = some (True, .many [.v (infoT 10), .v (.int .i64 0)]) := by kernel_rfl
theorem ofR_11 : ofR 11 = some (True, .many [.v (infoT 11), .v (.int .i64 0)]) := by kernel_rfl
theorem ofR_12 : ofR 12 = some (True, .many [.v (infoT 12), .v (.int .i64 0)]) := by kernel_rfl
set_option maxHeartbeats 20000000 in
theorem w39 (n : Int) (hp : ¬ (1 ≤ n ∧ n ≤ 12)) : awp ty G39 (code Try.f39) (retP ty Try.f39.results.toList (.many [.v infoZ, .v (.int .i64 1)])) (entry 0 [.v (.int .i64 n)]) [] := by
  unfold code
  simp only [Try.f39, Option.getD_some]
  have hn : n < 1 ∨ (¬ n < 1 ∧ n > 12) := by omega
  rcases hn with h | h
  all_goals first
    | (have g1 : decide (n < 1) = true := by simp only [decide_eq_true_eq]; omega)
    | (have g1 : decide (n < 1) = false := by simp only [decide_eq_false_iff_not]; omega)
    | (have g1 : decide ((4 : Int) ≥ 5) = false := rfl)
  all_goals first
    | (have g2 : decide (n > 12) = true := by simp only [decide_eq_true_eq]; omega)
    | (have g2 : decide (n > 12) = false := by simp only [decide_eq_false_iff_not]; omega)
    | (have g2 : decide ((4 : Int) ≥ 5) = false := rfl)
  all_goals repeat' (first
    | ((first
       | (with_reducible refine ops_k ?_; intro X hX)
       | (with_reducible refine opsN_k ?_; intro X hX)
       | (with_reducible show awp _ _ _ _ (keepL _ _) _)
       | with_reducible refine awp_cond_k ?_
       | (with_reducible refine Brk_i ?_ ?_ <;> intro hb <;> (try simp only [hb]) <;> have hq := hb <;> try simp only [decide_eq_true_eq, decide_eq_false_iff_not, gt_iff_lt, ge_iff_le, Int.not_lt, Int.not_le, beq_iff_eq, beq_eq_false_iff_ne, Bool.not_eq_true', Bool.not_eq_false', Bool.and_eq_true, Bool.or_eq_true, Bool.and_eq_false_imp, Bool.or_eq_false_iff, ne_eq, Classical.not_not] at hq)
       | with_reducible refine retP_ret_i ?_
       | with_reducible refine retP_normal_i ?_
       | (with_reducible (show bindG _ _ _ _ _); simp only [hall])) <;> try simp only [Go.AM.S1, Go.AM.S2, Go.AM.S3, Go.AM.S4, Go.AM.S5, Go.AM.S6, Go.AM.S7, Go.AM.S8, Go.AM.S9, Nat.reduceAdd, Nat.reduceMul, Nat.reduceSub, ↓reduceIte, Nat.reduceEqDiff, Nat.reduceLT, Nat.reduceLeDiff, reduceCtorEq, Int.reduceBEq, Int.reduceBNe, Nat.reduceBEq, Int.reduceEq, Int.reduceToNat, Int.reduceLE, Int.reduceLT, Nat.reduceDiv, Int.reduceAdd, Int.reduceSub, Int.reduceMul, Int.reduceNeg, Int.reduceGT, Int.reduceGE, Nat.reduceMod, ty_3, ty_4, ty_9, ty_58, ty_99, g1, g2])
    | (with_reducible refine hX _ _ ?_; clear hX X)
    | (with_reducible refine ops_nil_i ?_; try clear hall all)
    | (with_reducible refine opsN_nil_i ?_; try clear hall all)
    | (with_reducible refine hK _ _ ?_; clear hK K)
    | with_reducible refine thenP_normal_i ?_
    | (with_reducible refine zzr3 _ _ ?_; try clear zzr3 Kzzr3)
    | (with_reducible refine zzsr1 _ _ ?_; try clear zzsr1 Kzzsr1)
    | (with_reducible refine zzr2 _ _ ?_; try clear zzr2 Kzzr2)
    | (with_reducible refine zzr1 _ _ ?_; try clear zzr1 Kzzr1)
    | (with_reducible refine zzr0 _ _ ?_; try clear zzr0 Kzzr0)
    | (with_reducible refine awp_seq_l (a := .region 3 _ _) [2, 3] ?_; intro Kzzr3 zzr3)
    | (with_reducible refine awp_seq_l (a := .seq (.region 1 _ _) _) [0, 2] ?_; intro Kzzsr1 zzsr1)
    | (with_reducible refine awp_seq_l (a := .region 2 _ _) [2, 3] ?_; intro Kzzr2 zzr2)
    | (with_reducible refine awp_seq_l (a := .region 1 _ _) [0, 2, 9] ?_; intro Kzzr1 zzr1)
    | (with_reducible refine awp_seq_l (a := .region 0 _ _) [0, 2] ?_; intro Kzzr0 zzr0)
    | (with_reducible refine awp_seq_k ?_; intro K hK)
    | (with_reducible refine awp_region_a ?_; intro all hall K hK)
    | (with_reducible refine awp_draw_n ?_ ?_; kernel_rfl; intro all hall K hK)
    | (with_reducible refine Chk_i ?_ ?_)
    | (with_reducible refine keysC_i ?_; kernel_rfl)
    | (with_reducible first | refine awp_block_i ?_ | refine awp_skip_i ?_ | refine awp_ret_i ?_ | refine awp_exit_i ?_ | refine thenP_ret_i ?_ | refine thenP_exit_i ?_ | refine lpP_ret_i ?_ | refine lpP_exit_i ?_ | refine unrP_succ_i ?_ | refine unrP_ret_i ?_ | refine unrP_exit_i ?_ | refine blockP_normal_i ?_ | refine blockP_ret_i ?_)
    | (with_reducible refine blockP_exit_i ?_; simp only [↓reduceIte, Nat.reduceEqDiff])
    | with_reducible refine lpP_normal_i ?_)
  all_goals (try clear zzr0; try clear Kzzr0)
  all_goals (try clear zzr1; try clear Kzzr1)
  all_goals (try clear zzr2; try clear Kzzr2)
  all_goals (try clear zzsr1; try clear Kzzsr1)
  all_goals (try clear zzr3; try clear Kzzr3)
  all_goals rfl
noncomputable def s39w : CSpec := fun ds => match ds with
  | [.v (.int .i64 n)] => some (¬ (1 ≤ n ∧ n ≤ 12), .many [.v infoZ, .v (.int .i64 1)])
  | _ => none
theorem sound_39w : Sound Try.prog 39 .body s39w := by
  refine sound_body Try.func39 (show Try.f39.body = some (code Try.f39) from rfl) (by kernel_rfl) tysOk G39_ok (drawOk_ok (by kernel_rfl) tysOk G39_ok) (by kernel_rfl) fun ds p r hs hp => ?_
  unfold s39w at hs
  split at hs
  · cases hs; exact ⟨Nat.le_of_ble_eq_true (by kernel_rfl), w39 _ hp⟩
  · cases hs
theorem sound_39c : ∀ n : Int, 1 ≤ n ∧ n ≤ 12 → ∃ spec : CSpec, Sound Try.prog 39 .body spec ∧ spec [.v (.int .i64 n)] = some (True, .many [.v (infoT n), .v (.int .i64 0)]) := by
  intro n hn
  have hg := (GamN_ok (fuel := 1000) (P := Try.prog) (by kernel_rfl) tysOk extB_ok extB_free bodies_ok bodies_some 10).1
  have h : ofR n = some (True, .many [.v (infoT n), .v (.int .i64 0)]) := by
    have hn' : n = 1 ∨ n = 2 ∨ n = 3 ∨ n = 4 ∨ n = 5 ∨ n = 6 ∨ n = 7 ∨ n = 8 ∨ n = 9 ∨ n = 10 ∨ n = 11 ∨ n = 12 := by omega
    rcases hn' with rfl | rfl | rfl | rfl | rfl | rfl | rfl | rfl | rfl | rfl | rfl | rfl
    · exact ofR_1
    · exact ofR_2
    · exact ofR_3
    · exact ofR_4
    · exact ofR_5
    · exact ofR_6
    · exact ofR_7
    · exact ofR_8
    · exact ofR_9
    · exact ofR_10
    · exact ofR_11
    · exact ofR_12
  unfold ofR at h
  obtain ⟨⟨fk, spec⟩, h1, h2⟩ := Option.bind_eq_some_iff.1 h
  have hs := hg 39 fk spec h1
  have hfk : fk = .body := by
    have : (lk (GamN ty 1000 bodies extB 10) 39).map (·.1) = some .body := by kernel_rfl
    rw [h1] at this
    exact Option.some.inj this
  subst hfk
  exact ⟨spec, hs, h2⟩
theorem sound_39 : Sound Try.prog 39 .body (norm s39) := by
  refine sound_norm ?_
  obtain ⟨fn, h1, h2, h3, h4⟩ := sound_39w
  refine ⟨fn, h1, h2, h3, fun ds p r hs hp w vs hr => ?_⟩
  unfold s39 at hs
  split at hs
  · rename_i n
    cases hs
    by_cases hn : 1 ≤ n ∧ n ≤ 12
    · obtain ⟨spec, ⟨fn', h1', h2', h3', h4'⟩, h5⟩ := sound_39c n hn
      rw [infoV_in hn, errV_in hn]
      exact h4' _ _ _ h5 trivial w vs hr
    · rw [infoV_out hn, errV_out hn]
      exact h4 _ _ _ rfl hn w vs hr
  · cases hs
end Go.Proofs.AMT
set_option maxRecDepth 20000
namespace Go.Proofs.AMT
open Go.AM Go.AM.LN
attribute [local congr] bindO_congr bindS_congr bindG_congr awpOps_congr aOne_congr awp_congr aCond_congr awpD_congr dOne_congr keysB_congr nOne_congr thenP_congr blockP_congr Chk_congr Brk_congr
noncomputable def s67 : CSpec := fun ds => match ds with
  | [.v (.int .u64 x)] => some (0 ≤ x ∧ x < 18446744073709551616, .one (.v (.int .i64 (blen x.toNat))))
  | _ => none
theorem s67_eq (x : Int) : norm s67 [.v (.int .u64 x)] = some (0 ≤ x ∧ x < 18446744073709551616, .one (.v (.int .i64 (blen x.toNat)))) := rfl
noncomputable def G67 : Gam := []
theorem G67_ok : GamOk Try.prog G67 := gamOk_nil
set_option maxHeartbeats 20000000 in
theorem w67 (x : Int) (hp : 0 ≤ x ∧ x < 18446744073709551616) : awp ty G67 (code Try.f67) (retP ty Try.f67.results.toList (.one (.v (.int .i64 (blen x.toNat))))) (entry 0 [.v (.int .u64 x)]) [] := by
  unfold code
  simp only [Try.f67, Option.getD_some]
  obtain ⟨T, hT⟩ : ∃ T, some T = strIn (code Try.f67) := ⟨_, rfl⟩
  have hk : tabB T = true := by rw [Option.some.inj hT]; kernel_rfl
  simp only [code, Try.f67, Option.getD_some, strIn, strOp, List.findSome?_cons, List.findSome?_nil, Option.none_or, Option.or_none, Option.some.injEq] at hT
  simp only [← hT]
  clear hT
  have hsz := tab_size hk
  have bs : ∀ {j : Int}, 0 ≤ j → j < 256 → bt T j = (blen j.toNat : Int) ∧ blen j.toNat ≤ 8 := fun h0 h1 => ⟨tab_at hk h0 h1, blen_small (by omega)⟩
  all_goals repeat' (first
    | ((first
       | (with_reducible refine ops_k ?_; intro X hX)
       | (with_reducible refine opsN_k ?_; intro X hX)
       | (with_reducible show awp _ _ _ _ (keepL _ _) _)
       | with_reducible refine awp_cond_k ?_
       | (with_reducible refine Brk_i ?_ ?_ <;> intro hb <;> (try simp only [hb]) <;> have hq := hb <;> try simp only [decide_eq_true_eq, decide_eq_false_iff_not, gt_iff_lt, ge_iff_le, Int.not_lt, Int.not_le, beq_iff_eq, beq_eq_false_iff_ne, Bool.not_eq_true', Bool.not_eq_false', Bool.and_eq_true, Bool.or_eq_true, Bool.and_eq_false_imp, Bool.or_eq_false_iff, ne_eq, Classical.not_not] at hq)
       | with_reducible refine retP_ret_i ?_
       | with_reducible refine retP_normal_i ?_
       | (with_reducible (show bindG _ _ _ _ _); simp only [hall])) <;> try simp only [Go.AM.S1, Go.AM.S2, Go.AM.S3, Go.AM.S4, Go.AM.S5, Go.AM.S6, Go.AM.S7, Go.AM.S8, Go.AM.S9, Nat.reduceAdd, Nat.reduceMul, Nat.reduceSub, ↓reduceIte, Nat.reduceEqDiff, Nat.reduceLT, Nat.reduceLeDiff, reduceCtorEq, Int.reduceBEq, Int.reduceBNe, Nat.reduceBEq, Int.reduceEq, Int.reduceToNat, Int.reduceLE, Int.reduceLT, Nat.reduceDiv, Int.reduceAdd, Int.reduceSub, Int.reduceMul, Int.reduceNeg, Int.reduceGT, Int.reduceGE, Nat.reduceMod, ty_3, ty_5, ty_9, ty_26, ty_72, IntKind.bits, Int.reducePow, minLit])
    | (with_reducible refine hX _ _ ?_; clear hX X)
    | (with_reducible refine ops_nil_i ?_; try clear hall all)
    | (with_reducible refine opsN_nil_i ?_; try clear hall all)
    | (with_reducible refine hK _ _ ?_; clear hK K)
    | with_reducible refine thenP_normal_i ?_
    | (with_reducible refine zzr10 _ _ ?_; try clear zzr10 Kzzr10)
    | (with_reducible refine zzsr7 _ _ ?_; try clear zzsr7 Kzzsr7)
    | (with_reducible refine zzr8 _ _ ?_; try clear zzr8 Kzzr8)
    | (with_reducible refine zzr7 _ _ ?_; try clear zzr7 Kzzr7)
    | (with_reducible refine zzsr4 _ _ ?_; try clear zzsr4 Kzzsr4)
    | (with_reducible refine zzr5 _ _ ?_; try clear zzr5 Kzzr5)
    | (with_reducible refine zzr4 _ _ ?_; try clear zzr4 Kzzr4)
    | (with_reducible refine zzsr1 _ _ ?_; try clear zzsr1 Kzzsr1)
    | (with_reducible refine zzr2 _ _ ?_; try clear zzr2 Kzzr2)
    | (with_reducible refine zzr1 _ _ ?_; try clear zzr1 Kzzr1)
    | (with_reducible refine zzr0 _ _ ?_; try clear zzr0 Kzzr0)
    | (with_reducible refine awp_seq_l (a := .region 10 _ _) [2] ?_; intro Kzzr10 zzr10)
    | (with_reducible refine awp_seq_l (a := .seq (.region 7 _ _) _) [0, 2] ?_; intro Kzzsr7 zzsr7)
    | (with_reducible refine awp_seq_l (a := .region 8 _ _) [0, 2] ?_; intro Kzzr8 zzr8)
    | (with_reducible refine awp_seq_l (a := .region 7 _ _) [0, 2, 14] ?_; intro Kzzr7 zzr7)
    | (with_reducible refine awp_seq_l (a := .seq (.region 4 _ _) _) [0, 2] ?_; intro Kzzsr4 zzsr4)
    | (with_reducible refine awp_seq_l (a := .region 5 _ _) [0, 2] ?_; intro Kzzr5 zzr5)
    | (with_reducible refine awp_seq_l (a := .region 4 _ _) [0, 2, 8] ?_; intro Kzzr4 zzr4)
    | (with_reducible refine awp_seq_l (a := .seq (.region 1 _ _) _) [0, 2] ?_; intro Kzzsr1 zzsr1)
    | (with_reducible refine awp_seq_l (a := .region 2 _ _) [0] ?_; intro Kzzr2 zzr2)
    | (with_reducible refine awp_seq_l (a := .region 1 _ _) [0, 2, 4] ?_; intro Kzzr1 zzr1)
    | (with_reducible refine awp_seq_l (a := .region 0 _ _) [0, 2] ?_; intro Kzzr0 zzr0)
    | (with_reducible refine awp_seq_k ?_; intro K hK)
    | (with_reducible refine awp_region_a ?_; intro all hall K hK)
    | (with_reducible refine awp_draw_n ?_ ?_; kernel_rfl; intro all hall K hK)
    | (with_reducible refine Chk_i ?_ ?_)
    | (with_reducible refine keysC_i ?_; kernel_rfl)
    | (with_reducible first | refine awp_block_i ?_ | refine awp_skip_i ?_ | refine awp_ret_i ?_ | refine awp_exit_i ?_ | refine thenP_ret_i ?_ | refine thenP_exit_i ?_ | refine lpP_ret_i ?_ | refine lpP_exit_i ?_ | refine unrP_succ_i ?_ | refine unrP_ret_i ?_ | refine unrP_exit_i ?_ | refine blockP_normal_i ?_ | refine blockP_ret_i ?_)
    | (with_reducible refine blockP_exit_i ?_; simp only [↓reduceIte, Nat.reduceEqDiff])
    | with_reducible refine lpP_normal_i ?_)
  all_goals (try clear zzr0; try clear Kzzr0)
  all_goals (try clear zzr1; try clear Kzzr1)
  all_goals (try clear zzr2; try clear Kzzr2)
  all_goals (try clear zzsr1; try clear Kzzsr1)
  all_goals (try clear zzr4; try clear Kzzr4)
  all_goals (try clear zzr5; try clear Kzzr5)
  all_goals (try clear zzsr4; try clear Kzzsr4)
  all_goals (try clear zzr7; try clear Kzzr7)
  all_goals (try clear zzr8; try clear Kzzr8)
  all_goals (try clear zzsr7; try clear Kzzsr7)
  all_goals (try clear zzr10; try clear Kzzr10)
  all_goals have b0 := bs (j := x % 256) (by omega) (by omega)
  all_goals have c0 : x < 256 → blen (x % 256).toNat = blen (x.toNat / 2 ^ 0) := fun h => by congr 1; omega
  all_goals have d0 : blen x.toNat = blen (x.toNat / 2 ^ 0) := by rw [Nat.pow_zero, Nat.div_one]
  all_goals have b1 := bs (j := x / 256 % 256) (by omega) (by omega)
  all_goals have c1 : x < 65536 → blen (x / 256 % 256).toNat = blen (x.toNat / 2 ^ 8) := fun h => by congr 1; omega
  all_goals have d1 : 256 ≤ x → blen x.toNat = blen (x.toNat / 2 ^ 8) + 8 := fun h => blen_div (by omega)
  all_goals have b2 := bs (j := x / 65536 % 256) (by omega) (by omega)
  all_goals have c2 : x < 16777216 → blen (x / 65536 % 256).toNat = blen (x.toNat / 2 ^ 16) := fun h => by congr 1; omega
  all_goals have d2 : 65536 ≤ x → blen x.toNat = blen (x.toNat / 2 ^ 16) + 16 := fun h => blen_div (by omega)
  all_goals have b3 := bs (j := x / 65536 / 256 % 256) (by omega) (by omega)
  all_goals have c3 : x < 4294967296 → blen (x / 65536 / 256 % 256).toNat = blen (x.toNat / 2 ^ 24) := fun h => by congr 1; omega
  all_goals have d3 : 16777216 ≤ x → blen x.toNat = blen (x.toNat / 2 ^ 24) + 24 := fun h => blen_div (by omega)
  all_goals have b4 := bs (j := x / 4294967296 % 256) (by omega) (by omega)
  all_goals have c4 : x < 1099511627776 → blen (x / 4294967296 % 256).toNat = blen (x.toNat / 2 ^ 32) := fun h => by congr 1; omega
  all_goals have d4 : 4294967296 ≤ x → blen x.toNat = blen (x.toNat / 2 ^ 32) + 32 := fun h => blen_div (by omega)
  all_goals have b5 := bs (j := x / 4294967296 / 256 % 256) (by omega) (by omega)
  all_goals have c5 : x < 281474976710656 → blen (x / 4294967296 / 256 % 256).toNat = blen (x.toNat / 2 ^ 40) := fun h => by congr 1; omega
  all_goals have d5 : 1099511627776 ≤ x → blen x.toNat = blen (x.toNat / 2 ^ 40) + 40 := fun h => blen_div (by omega)
  all_goals have b6 := bs (j := x / 4294967296 / 65536 % 256) (by omega) (by omega)
  all_goals have c6 : x < 72057594037927936 → blen (x / 4294967296 / 65536 % 256).toNat = blen (x.toNat / 2 ^ 48) := fun h => by congr 1; omega
  all_goals have d6 : 281474976710656 ≤ x → blen x.toNat = blen (x.toNat / 2 ^ 48) + 48 := fun h => blen_div (by omega)
  all_goals have b7 := bs (j := x / 4294967296 / 65536 / 256 % 256) (by omega) (by omega)
  all_goals have c7 : x < 18446744073709551616 → blen (x / 4294967296 / 65536 / 256 % 256).toNat = blen (x.toNat / 2 ^ 56) := fun h => by congr 1; omega
  all_goals have d7 : 72057594037927936 ≤ x → blen x.toNat = blen (x.toNat / 2 ^ 56) + 56 := fun h => blen_div (by omega)
  all_goals (try simp only [inR, hsz])
  all_goals first
    | omega
    | (refine congrArg _ ?_; omega)
theorem sound_67 : Sound Try.prog 67 .body (norm s67) := by
  refine sound_norm (sound_body Try.func67 (show Try.f67.body = some (code Try.f67) from rfl) (by kernel_rfl) tysOk G67_ok (drawOk_ok (by kernel_rfl) tysOk G67_ok) (by kernel_rfl) fun ds p r hs hp => ?_)
  unfold s67 at hs
  split at hs
  · cases hs; exact ⟨Nat.le_of_ble_eq_true (by kernel_rfl), w67 _ hp⟩
  · cases hs
end Go.Proofs.AMT
set_option maxRecDepth 20000
namespace Go.Proofs.AMT
open Go.AM Go.AM.LN
attribute [local congr] bindO_congr bindS_congr bindG_congr awpOps_congr aOne_congr awp_congr aCond_congr awpD_congr dOne_congr keysB_congr nOne_congr thenP_congr blockP_congr Chk_congr Brk_congr
noncomputable def s40 : CSpec := fun ds => match ds with
  | [.v (.agg ⟨[.int .u64 a0, .int .u64 a1, .int .u64 a2, .int .u64 a3]⟩)] => some ((0 ≤ a0 ∧ a0 < 18446744073709551616) ∧ (0 ≤ a1 ∧ a1 < 18446744073709551616) ∧ (0 ≤ a2 ∧ a2 < 18446744073709551616) ∧ (0 ≤ a3 ∧ a3 < 18446744073709551616), .one (.v (.int .i64 (blen (V4 a0 a1 a2 a3)))))
  | _ => none
theorem s40_eq (a0 a1 a2 a3 : Int) : norm s40 [.v (.agg #[.int .u64 a0, .int .u64 a1, .int .u64 a2, .int .u64 a3])] = some ((0 ≤ a0 ∧ a0 < 18446744073709551616) ∧ (0 ≤ a1 ∧ a1 < 18446744073709551616) ∧ (0 ≤ a2 ∧ a2 < 18446744073709551616) ∧ (0 ≤ a3 ∧ a3 < 18446744073709551616), .one (.v (.int .i64 (blen (V4 a0 a1 a2 a3))))) := rfl
noncomputable def G40 : Gam := [(67, .body, norm s67)]
theorem G40_ok : GamOk Try.prog G40 := gamOk_cons sound_67 gamOk_nil
theorem k40_67 : lk G40 67 = some (.body, norm s67) := rfl
set_option maxHeartbeats 20000000 in
theorem w40 (a0 a1 a2 a3 : Int) (hp : (0 ≤ a0 ∧ a0 < 18446744073709551616) ∧ (0 ≤ a1 ∧ a1 < 18446744073709551616) ∧ (0 ≤ a2 ∧ a2 < 18446744073709551616) ∧ (0 ≤ a3 ∧ a3 < 18446744073709551616)) : awp ty G40 (code Try.f40) (retP ty Try.f40.results.toList (.one (.v (.int .i64 (blen (V4 a0 a1 a2 a3)))))) (entry 0 [.v (.agg #[.int .u64 a0, .int .u64 a1, .int .u64 a2, .int .u64 a3])]) [] := by
  unfold code
  simp only [Try.f40, Option.getD_some]
  have hl := blen_V4 hp.1 hp.2.1 hp.2.2.1 hp.2.2.2
  have z0 : a0 = 0 → blen a0.toNat = 0 := fun h => by rw [h]; rfl
  have q0 : blen a0.toNat ≤ 64 := blen_lt.2 (by omega)
  have q1 : blen a1.toNat ≤ 64 := blen_lt.2 (by omega)
  have q2 : blen a2.toNat ≤ 64 := blen_lt.2 (by omega)
  have q3 : blen a3.toNat ≤ 64 := blen_lt.2 (by omega)
  all_goals repeat' (first
    | ((first
       | (with_reducible refine ops_k ?_; intro X hX)
       | (with_reducible refine opsN_k ?_; intro X hX)
       | (with_reducible show awp _ _ _ _ (keepL _ _) _)
       | with_reducible refine awp_cond_k ?_
       | (with_reducible refine Brk_i ?_ ?_ <;> intro hb <;> (try simp only [hb]) <;> have hq := hb <;> try simp only [decide_eq_true_eq, decide_eq_false_iff_not, gt_iff_lt, ge_iff_le, Int.not_lt, Int.not_le, beq_iff_eq, beq_eq_false_iff_ne, Bool.not_eq_true', Bool.not_eq_false', Bool.and_eq_true, Bool.or_eq_true, Bool.and_eq_false_imp, Bool.or_eq_false_iff, ne_eq, Classical.not_not] at hq)
       | with_reducible refine retP_ret_i ?_
       | with_reducible refine retP_normal_i ?_
       | (with_reducible (show bindG _ _ _ _ _); simp only [hall])) <;> try simp only [Go.AM.S1, Go.AM.S2, Go.AM.S3, Go.AM.S4, Go.AM.S5, Go.AM.S6, Go.AM.S7, Go.AM.S8, Go.AM.S9, Nat.reduceAdd, Nat.reduceMul, Nat.reduceSub, ↓reduceIte, Nat.reduceEqDiff, Nat.reduceLT, Nat.reduceLeDiff, reduceCtorEq, Int.reduceBEq, Int.reduceBNe, Nat.reduceBEq, Int.reduceEq, Int.reduceToNat, Int.reduceLE, Int.reduceLT, Nat.reduceDiv, Int.reduceAdd, Int.reduceSub, Int.reduceMul, Int.reduceNeg, Int.reduceGT, Int.reduceGE, Nat.reduceMod, k40_67, s67_eq, ty_3, ty_26, ty_27, Int.mul_zero])
    | (with_reducible refine hX _ _ ?_; clear hX X)
    | (with_reducible refine ops_nil_i ?_; try clear hall all)
    | (with_reducible refine opsN_nil_i ?_; try clear hall all)
    | (with_reducible refine hK _ _ ?_; clear hK K)
    | with_reducible refine thenP_normal_i ?_
    | (with_reducible refine zzr6 _ _ ?_; try clear zzr6 Kzzr6)
    | (with_reducible refine zzsr1 _ _ ?_; try clear zzsr1 Kzzsr1)
    | (with_reducible refine zzb1 _ _ ?_; try clear zzb1 Kzzb1)
    | (with_reducible refine zzr5 _ _ ?_; try clear zzr5 Kzzr5)
    | (with_reducible refine zzr4 _ _ ?_; try clear zzr4 Kzzr4)
    | (with_reducible refine zzsr2 _ _ ?_; try clear zzsr2 Kzzsr2)
    | (with_reducible refine zzr2 _ _ ?_; try clear zzr2 Kzzr2)
    | (with_reducible refine zzr1 _ _ ?_; try clear zzr1 Kzzr1)
    | (with_reducible refine zzr0 _ _ ?_; try clear zzr0 Kzzr0)
    | (with_reducible refine awp_unroll (Nat.succ (Nat.succ (Nat.succ (Nat.succ (Nat.succ Nat.zero))))) ?_)
    | (with_reducible refine awp_seq_l (a := .region 6 _ _) [2] ?_; intro Kzzr6 zzr6)
    | (with_reducible refine awp_seq_l (a := .seq (.region 1 _ _) _) [] ?_; intro Kzzsr1 zzsr1)
    | (with_reducible refine awp_seq_l (a := .block 1 _) [1, 3] ?_; intro Kzzb1 zzb1)
    | (with_reducible refine awp_seq_l (a := .region 5 _ _) [2] ?_; intro Kzzr5 zzr5)
    | (with_reducible refine awp_seq_l (a := .region 4 _ _) [1, 3, 14] ?_; intro Kzzr4 zzr4)
    | (with_reducible refine awp_seq_l (a := .seq (.region 2 _ _) _) [1, 3] ?_; intro Kzzsr2 zzsr2)
    | (with_reducible refine awp_seq_l (a := .region 2 _ _) [1, 3, 8] ?_; intro Kzzr2 zzr2)
    | (with_reducible refine awp_seq_l (a := .region 1 _ _) [1, 3] ?_; intro Kzzr1 zzr1)
    | (with_reducible refine awp_seq_l (a := .region 0 _ _) [1] ?_; intro Kzzr0 zzr0)
    | (with_reducible refine awp_seq_k ?_; intro K hK)
    | (with_reducible refine awp_region_a ?_; intro all hall K hK)
    | (with_reducible refine awp_draw_n ?_ ?_; kernel_rfl; intro all hall K hK)
    | (with_reducible refine Chk_i ?_ ?_)
    | (with_reducible refine keysC_i ?_; kernel_rfl)
    | (with_reducible first | refine awp_block_i ?_ | refine awp_skip_i ?_ | refine awp_ret_i ?_ | refine awp_exit_i ?_ | refine thenP_ret_i ?_ | refine thenP_exit_i ?_ | refine lpP_ret_i ?_ | refine lpP_exit_i ?_ | refine unrP_succ_i ?_ | refine unrP_ret_i ?_ | refine unrP_exit_i ?_ | refine blockP_normal_i ?_ | refine blockP_ret_i ?_)
    | (with_reducible refine blockP_exit_i ?_; simp only [↓reduceIte, Nat.reduceEqDiff])
    | with_reducible refine lpP_normal_i ?_)
  all_goals (try clear zzr0; try clear Kzzr0)
  all_goals (try clear zzr1; try clear Kzzr1)
  all_goals (try clear zzr2; try clear Kzzr2)
  all_goals (try clear zzsr2; try clear Kzzsr2)
  all_goals (try clear zzr4; try clear Kzzr4)
  all_goals (try clear zzr5; try clear Kzzr5)
  all_goals (try clear zzb1; try clear Kzzb1)
  all_goals (try clear zzsr1; try clear Kzzsr1)
  all_goals (try clear zzr6; try clear Kzzr6)
  all_goals (try simp only [inR])
  all_goals first
    | omega
    | (refine congrArg _ ?_; omega)
theorem sound_40 : Sound Try.prog 40 .body (norm s40) := by
  refine sound_norm (sound_body Try.func40 (show Try.f40.body = some (code Try.f40) from rfl) (by kernel_rfl) tysOk G40_ok (drawOk_ok (by kernel_rfl) tysOk G40_ok) (by kernel_rfl) fun ds p r hs hp => ?_)
  unfold s40 at hs
  split at hs
  · cases hs; exact ⟨Nat.le_of_ble_eq_true (by kernel_rfl), w40 _ _ _ _ hp⟩
  · cases hs
end Go.Proofs.AMT
set_option maxRecDepth 20000
namespace Go.Proofs.AMT
open Go.AM Go.AM.LN
attribute [local congr] bindO_congr bindS_congr bindG_congr awpOps_congr aOne_congr awp_congr aCond_congr awpD_congr dOne_congr keysB_congr nOne_congr thenP_congr blockP_congr Chk_congr Brk_congr
noncomputable def s23 : CSpec := fun ds => match ds with
  | [.v (.int .i64 n), .v (.agg ⟨[.int .u64 b0, .int .u64 b1, .int .u64 b2, .int .u64 b3]⟩)] => some ((0 ≤ b0 ∧ b0 < 18446744073709551616) ∧ (0 ≤ b1 ∧ b1 < 18446744073709551616) ∧ (0 ≤ b2 ∧ b2 < 18446744073709551616) ∧ (0 ≤ b3 ∧ b3 < 18446744073709551616), .many [.v (infoV n), .v (.bool (okB n (V4 b0 b1 b2 b3)))])
  | _ => none
theorem s23_eq (n : Int) (b0 b1 b2 b3 : Int) : norm s23 [.v (.int .i64 n), .v (.agg #[.int .u64 b0, .int .u64 b1, .int .u64 b2, .int .u64 b3])] = some ((0 ≤ b0 ∧ b0 < 18446744073709551616) ∧ (0 ≤ b1 ∧ b1 < 18446744073709551616) ∧ (0 ≤ b2 ∧ b2 < 18446744073709551616) ∧ (0 ≤ b3 ∧ b3 < 18446744073709551616), .many [.v (infoV n), .v (.bool (okB n (V4 b0 b1 b2 b3)))]) := rfl
noncomputable def G23 : Gam := [(39, .body, norm s39), (40, .body, norm s40)]
theorem G23_ok : GamOk Try.prog G23 := gamOk_cons sound_39 (gamOk_cons sound_40 gamOk_nil)
theorem k23_39 : lk G23 39 = some (.body, norm s39) := rfl
theorem k23_40 : lk G23 40 = some (.body, norm s40) := rfl
set_option maxHeartbeats 20000000 in
theorem w23 (n : Int) (b0 b1 b2 b3 : Int) (hp : (0 ≤ b0 ∧ b0 < 18446744073709551616) ∧ (0 ≤ b1 ∧ b1 < 18446744073709551616) ∧ (0 ≤ b2 ∧ b2 < 18446744073709551616) ∧ (0 ≤ b3 ∧ b3 < 18446744073709551616)) : awp ty G23 (code Try.f23) (retP ty Try.f23.results.toList (.many [.v (infoV n), .v (.bool (okB n (V4 b0 b1 b2 b3)))])) (entry 0 [.v (.int .i64 n), .v (.agg #[.int .u64 b0, .int .u64 b1, .int .u64 b2, .int .u64 b3])]) [] := by
  unfold code
  simp only [Try.f23, Option.getD_some]
  have hn : (1 ≤ n ∧ n ≤ 6) ∨ (7 ≤ n ∧ n ≤ 12) ∨ ¬ (1 ≤ n ∧ n ≤ 12) := by omega
  rcases hn with h | h | h
  all_goals first
    | (have hI := infoV_in (n := n) (by omega))
    | (have hI := infoV_out h)
  all_goals first
    | (have hE := errV_in (n := n) (by omega))
    | (have hE := errV_out h)
  all_goals first
    | (have g1 : (fb n == 2) = true := by rw [(bfmt h).b2]; rfl)
    | (have g1 : (fb n == 2) = false := by rw [dfmt h]; rfl)
    | (have g1 : decide ((4 : Int) ≥ 5) = false := rfl)
  all_goals first
    | (have hO : okB n (V4 b0 b1 b2 b3) = decide ((blen (V4 b0 b1 b2 b3) : Int) ≤ fw n) := by unfold okB; rw [decide_eq_true h, Bool.true_and])
    | (have hO : okB n (V4 b0 b1 b2 b3) = false := by unfold okB; rw [decide_eq_false (by omega), Bool.false_and])
  all_goals repeat' (first
    | ((first
       | (with_reducible refine ops_k ?_; intro X hX)
       | (with_reducible refine opsN_k ?_; intro X hX)
       | (with_reducible show awp _ _ _ _ (keepL _ _) _)
       | (with_reducible refine hX _ _ _ _ ?_; clear hX X)
       | (with_reducible refine opsD_k ?_; intro X hX)
       | with_reducible refine awp_cond_k ?_
       | (with_reducible refine Brk_i ?_ ?_ <;> intro hb <;> (try simp only [hb]) <;> have hq := hb <;> try simp only [decide_eq_true_eq, decide_eq_false_iff_not, gt_iff_lt, ge_iff_le, Int.not_lt, Int.not_le, beq_iff_eq, beq_eq_false_iff_ne, Bool.not_eq_true', Bool.not_eq_false', Bool.and_eq_true, Bool.or_eq_true, Bool.and_eq_false_imp, Bool.or_eq_false_iff, ne_eq, Classical.not_not] at hq)
       | with_reducible refine retP_ret_i ?_
       | with_reducible refine retP_normal_i ?_
       | (with_reducible (show bindG _ _ _ _ _); simp only [hall])) <;> try simp only [Go.AM.S1, Go.AM.S2, Go.AM.S3, Go.AM.S4, Go.AM.S5, Go.AM.S6, Go.AM.S7, Go.AM.S8, Go.AM.S9, Nat.reduceAdd, Nat.reduceMul, Nat.reduceSub, ↓reduceIte, Nat.reduceEqDiff, Nat.reduceLT, Nat.reduceLeDiff, reduceCtorEq, Int.reduceBEq, Int.reduceBNe, Nat.reduceBEq, Int.reduceEq, Int.reduceToNat, Int.reduceLE, Int.reduceLT, Nat.reduceDiv, Int.reduceAdd, Int.reduceSub, Int.reduceMul, Int.reduceNeg, Int.reduceGT, Int.reduceGE, Nat.reduceMod, k23_39, s39_eq, k23_40, s40_eq, ty_3, ty_4, ty_9, ty_26, ty_27, ty_28, ty_29, ty_58, hI, hE, g1, hO, infoT, infoZ])
    | (with_reducible refine hX _ _ ?_; clear hX X)
    | (with_reducible refine opsD_nil_i ?_; try clear hall all)
    | (with_reducible refine keysB_i ?_; kernel_rfl)
    | ((with_reducible show clashK _ _ _ = true); kernel_rfl)
    | (with_reducible refine ops_nil_i ?_; try clear hall all)
    | (with_reducible refine opsN_nil_i ?_; try clear hall all)
    | (with_reducible refine hK _ _ ?_; clear hK K)
    | with_reducible refine thenP_normal_i ?_
    | (with_reducible refine zzr2 _ _ ?_; try clear zzr2 Kzzr2)
    | (with_reducible refine zzr1 _ _ ?_; try clear zzr1 Kzzr1)
    | (with_reducible refine zzr0 _ _ ?_; try clear zzr0 Kzzr0)
    | (with_reducible refine awp_seq_l (a := .region 2 _ _) [4, 5] ?_; intro Kzzr2 zzr2)
    | (with_reducible refine awp_seq_l (a := .region 1 _ _) [3, 4, 6, 7] ?_; intro Kzzr1 zzr1)
    | (with_reducible refine awp_seq_l (a := .region 0 _ _) [0, 3, 4] ?_; intro Kzzr0 zzr0)
    | (with_reducible refine awp_seq_k ?_; intro K hK)
    | (with_reducible refine awp_region_a ?_; intro all hall K hK)
    | (with_reducible refine awp_draw_a (id := 2) ?_ ?_; kernel_rfl; intro all hall K hK)
    | (with_reducible refine awp_draw_n ?_ ?_; kernel_rfl; intro all hall K hK)
    | (with_reducible refine Chk_i ?_ ?_)
    | (with_reducible refine keysC_i ?_; kernel_rfl)
    | (with_reducible first | refine awp_block_i ?_ | refine awp_skip_i ?_ | refine awp_ret_i ?_ | refine awp_exit_i ?_ | refine thenP_ret_i ?_ | refine thenP_exit_i ?_ | refine lpP_ret_i ?_ | refine lpP_exit_i ?_ | refine unrP_succ_i ?_ | refine unrP_ret_i ?_ | refine unrP_exit_i ?_ | refine blockP_normal_i ?_ | refine blockP_ret_i ?_)
    | (with_reducible refine blockP_exit_i ?_; simp only [↓reduceIte, Nat.reduceEqDiff])
    | with_reducible refine lpP_normal_i ?_)
  all_goals (try clear zzr0; try clear Kzzr0)
  all_goals (try clear zzr1; try clear Kzzr1)
  all_goals (try clear zzr2; try clear Kzzr2)
  all_goals first
    | omega
    | exact hp
    | skip
theorem sound_23 : Sound Try.prog 23 .body (norm s23) := by
  refine sound_norm (sound_body Try.func23 (show Try.f23.body = some (code Try.f23) from rfl) (by kernel_rfl) tysOk G23_ok (drawOk_ok (by kernel_rfl) tysOk G23_ok) (by kernel_rfl) fun ds p r hs hp => ?_)
  unfold s23 at hs
  split at hs
  · cases hs; exact ⟨Nat.le_of_ble_eq_true (by kernel_rfl), w23 _ _ _ _ _ hp⟩
  · cases hs
end Go.Proofs.AMT
set_option maxRecDepth 20000
namespace Go.Proofs.AMT
open Go.AM Go.AM.LN
attribute [local congr] bindO_congr bindS_congr bindG_congr awpOps_congr aOne_congr awp_congr aCond_congr awpD_congr dOne_congr keysB_congr nOne_congr thenP_congr blockP_congr Chk_congr Brk_congr
noncomputable def s61 : CSpec := fun ds => match ds with
  | [.v (.agg ⟨[.int .u64 a0, .int .u64 a1, .int .u64 a2, .int .u64 a3]⟩), .v (.agg ⟨[.int .u64 b0, .int .u64 b1, .int .u64 b2, .int .u64 b3]⟩)] => some (True, .one (.v (.agg #[.int .u64 (AM.bits .and .u64 a0 b0), .int .u64 (AM.bits .and .u64 a1 b1), .int .u64 (AM.bits .and .u64 a2 b2), .int .u64 (AM.bits .and .u64 a3 b3)])))
  | _ => none
theorem s61_eq (a0 a1 a2 a3 : Int) (b0 b1 b2 b3 : Int) : norm s61 [.v (.agg #[.int .u64 a0, .int .u64 a1, .int .u64 a2, .int .u64 a3]), .v (.agg #[.int .u64 b0, .int .u64 b1, .int .u64 b2, .int .u64 b3])] = some (True, .one (.v (.agg #[.int .u64 (AM.bits .and .u64 a0 b0), .int .u64 (AM.bits .and .u64 a1 b1), .int .u64 (AM.bits .and .u64 a2 b2), .int .u64 (AM.bits .and .u64 a3 b3)]))) := rfl
noncomputable def G61 : Gam := []
theorem G61_ok : GamOk Try.prog G61 := gamOk_nil
set_option maxHeartbeats 20000000 in
theorem w61 (a0 a1 a2 a3 : Int) (b0 b1 b2 b3 : Int) (hp : True) : awp ty G61 (code Try.f61) (retP ty Try.f61.results.toList (.one (.v (.agg #[.int .u64 (AM.bits .and .u64 a0 b0), .int .u64 (AM.bits .and .u64 a1 b1), .int .u64 (AM.bits .and .u64 a2 b2), .int .u64 (AM.bits .and .u64 a3 b3)])))) (entry 0 [.v (.agg #[.int .u64 a0, .int .u64 a1, .int .u64 a2, .int .u64 a3]), .v (.agg #[.int .u64 b0, .int .u64 b1, .int .u64 b2, .int .u64 b3])]) [] := by
  unfold code
  simp only [Try.f61, Option.getD_some]
  all_goals repeat' (first
    | ((first
       | (with_reducible refine ops_k ?_; intro X hX)
       | (with_reducible refine opsN_k ?_; intro X hX)
       | (with_reducible show awp _ _ _ _ (keepL _ _) _)
       | (with_reducible refine hX _ _ _ _ ?_; clear hX X)
       | (with_reducible refine opsD_k ?_; intro X hX)
       | with_reducible refine awp_cond_k ?_
       | (with_reducible refine Brk_i ?_ ?_ <;> intro hb <;> (try simp only [hb]) <;> have hq := hb <;> try simp only [decide_eq_true_eq, decide_eq_false_iff_not, gt_iff_lt, ge_iff_le, Int.not_lt, Int.not_le, beq_iff_eq, beq_eq_false_iff_ne, Bool.not_eq_true', Bool.not_eq_false', Bool.and_eq_true, Bool.or_eq_true, Bool.and_eq_false_imp, Bool.or_eq_false_iff, ne_eq, Classical.not_not] at hq)
       | with_reducible refine retP_ret_i ?_
       | with_reducible refine retP_normal_i ?_
       | (with_reducible (show bindG _ _ _ _ _); simp only [hall])) <;> try simp only [Go.AM.S1, Go.AM.S2, Go.AM.S3, Go.AM.S4, Go.AM.S5, Go.AM.S6, Go.AM.S7, Go.AM.S8, Go.AM.S9, Nat.reduceAdd, Nat.reduceMul, Nat.reduceSub, ↓reduceIte, Nat.reduceEqDiff, Nat.reduceLT, Nat.reduceLeDiff, reduceCtorEq, Int.reduceBEq, Int.reduceBNe, Nat.reduceBEq, Int.reduceEq, Int.reduceToNat, Int.reduceLE, Int.reduceLT, Nat.reduceDiv, Int.reduceAdd, Int.reduceSub, Int.reduceMul, Int.reduceNeg, Int.reduceGT, Int.reduceGE, Nat.reduceMod, ty_3, ty_26, ty_28])
    | (with_reducible refine hX _ _ ?_; clear hX X)
    | (with_reducible refine opsD_nil_i ?_; try clear hall all)
    | (with_reducible refine keysB_i ?_; kernel_rfl)
    | ((with_reducible show clashK _ _ _ = true); kernel_rfl)
    | (with_reducible refine ops_nil_i ?_; try clear hall all)
    | (with_reducible refine opsN_nil_i ?_; try clear hall all)
    | (with_reducible refine hK _ _ ?_; clear hK K)
    | with_reducible refine thenP_normal_i ?_
    | (with_reducible refine zzr6 _ _ ?_; try clear zzr6 Kzzr6)
    | (with_reducible refine zzsr1 _ _ ?_; try clear zzsr1 Kzzsr1)
    | (with_reducible refine zzb1 _ _ ?_; try clear zzb1 Kzzb1)
    | (with_reducible refine zzr3 _ _ ?_; try clear zzr3 Kzzr3)
    | (with_reducible refine zzctmp7 _ _ ?_; try clear zzctmp7 Kzzctmp7)
    | (with_reducible refine zzr2 _ _ ?_; try clear zzr2 Kzzr2)
    | (with_reducible refine zzr1 _ _ ?_; try clear zzr1 Kzzr1)
    | (with_reducible refine zzr0 _ _ ?_; try clear zzr0 Kzzr0)
    | (with_reducible refine awp_unroll (Nat.succ (Nat.succ (Nat.succ (Nat.succ (Nat.succ Nat.zero))))) ?_)
    | (with_reducible refine awp_seq_l (a := .region 6 _ _) [4] ?_; intro Kzzr6 zzr6)
    | (with_reducible refine awp_seq_l (a := .seq (.region 1 _ _) _) [2, 4] ?_; intro Kzzsr1 zzsr1)
    | (with_reducible refine awp_seq_l (a := .block 1 _) [2, 3, 4, 6] ?_; intro Kzzb1 zzb1)
    | (with_reducible refine awp_seq_l (a := .region 3 _ _) [2, 3, 4, 5, 6] ?_; intro Kzzr3 zzr3)
    | (with_reducible refine awp_seq_l (a := .cond (.tmp 7) _ _) [2, 3, 4, 6] ?_; intro Kzzctmp7 zzctmp7)
    | (with_reducible refine awp_seq_l (a := .region 2 _ _) [2, 3, 4, 6, 7] ?_; intro Kzzr2 zzr2)
    | (with_reducible refine awp_seq_l (a := .region 1 _ _) [2, 3, 4, 6] ?_; intro Kzzr1 zzr1)
    | (with_reducible refine awp_seq_l (a := .region 0 _ _) [2, 3, 4] ?_; intro Kzzr0 zzr0)
    | (with_reducible refine awp_seq_k ?_; intro K hK)
    | (with_reducible refine awp_region_a ?_; intro all hall K hK)
    | (with_reducible refine awp_draw_a (id := 4) ?_ ?_; kernel_rfl; intro all hall K hK)
    | (with_reducible refine awp_draw_n ?_ ?_; kernel_rfl; intro all hall K hK)
    | (with_reducible refine Chk_i ?_ ?_)
    | (with_reducible refine keysC_i ?_; kernel_rfl)
    | (with_reducible first | refine awp_block_i ?_ | refine awp_skip_i ?_ | refine awp_ret_i ?_ | refine awp_exit_i ?_ | refine thenP_ret_i ?_ | refine thenP_exit_i ?_ | refine lpP_ret_i ?_ | refine lpP_exit_i ?_ | refine unrP_succ_i ?_ | refine unrP_ret_i ?_ | refine unrP_exit_i ?_ | refine blockP_normal_i ?_ | refine blockP_ret_i ?_)
    | (with_reducible refine blockP_exit_i ?_; simp only [↓reduceIte, Nat.reduceEqDiff])
    | with_reducible refine lpP_normal_i ?_)
  all_goals (try clear zzr0; try clear Kzzr0)
  all_goals (try clear zzr1; try clear Kzzr1)
  all_goals (try clear zzr2; try clear Kzzr2)
  all_goals (try clear zzctmp7; try clear Kzzctmp7)
  all_goals (try clear zzr3; try clear Kzzr3)
  all_goals (try clear zzb1; try clear Kzzb1)
  all_goals (try clear zzsr1; try clear Kzzsr1)
  all_goals (try clear zzr6; try clear Kzzr6)
  all_goals (simp only [inR]; omega)
theorem sound_61 : Sound Try.prog 61 .body (norm s61) := by
  refine sound_norm (sound_body Try.func61 (show Try.f61.body = some (code Try.f61) from rfl) (by kernel_rfl) tysOk G61_ok (drawOk_ok (by kernel_rfl) tysOk G61_ok) (by kernel_rfl) fun ds p r hs hp => ?_)
  unfold s61 at hs
  split at hs
  · cases hs; exact ⟨Nat.le_of_ble_eq_true (by kernel_rfl), w61 _ _ _ _ _ _ _ _ hp⟩
  · cases hs
end Go.Proofs.AMT
set_option maxRecDepth 20000
namespace Go.Proofs.AMT
open Go.AM Go.AM.LN
attribute [local congr] bindO_congr bindS_congr bindG_congr awpOps_congr aOne_congr awp_congr aCond_congr awpD_congr dOne_congr keysB_congr nOne_congr thenP_congr blockP_congr Chk_congr Brk_congr
noncomputable def s62 : CSpec := fun ds => match ds with
  | [.v (.agg ⟨[.int .u64 a0, .int .u64 a1, .int .u64 a2, .int .u64 a3]⟩), .v (.int .i64 n)] => some (((0 ≤ a0 ∧ a0 < 18446744073709551616) ∧ (0 ≤ a1 ∧ a1 < 18446744073709551616) ∧ (0 ≤ a2 ∧ a2 < 18446744073709551616) ∧ (0 ≤ a3 ∧ a3 < 18446744073709551616)) ∧ 0 ≤ n ∧ n < 4000000000, .one (.v (.agg #[.int .u64 (w4 (V4 a0 a1 a2 a3 / 2 ^ n.toNat) 0), .int .u64 (w4 (V4 a0 a1 a2 a3 / 2 ^ n.toNat) 1), .int .u64 (w4 (V4 a0 a1 a2 a3 / 2 ^ n.toNat) 2), .int .u64 (w4 (V4 a0 a1 a2 a3 / 2 ^ n.toNat) 3)])))
  | _ => none
theorem s62_eq (a0 a1 a2 a3 : Int) (n : Int) : norm s62 [.v (.agg #[.int .u64 a0, .int .u64 a1, .int .u64 a2, .int .u64 a3]), .v (.int .i64 n)] = some (((0 ≤ a0 ∧ a0 < 18446744073709551616) ∧ (0 ≤ a1 ∧ a1 < 18446744073709551616) ∧ (0 ≤ a2 ∧ a2 < 18446744073709551616) ∧ (0 ≤ a3 ∧ a3 < 18446744073709551616)) ∧ 0 ≤ n ∧ n < 4000000000, .one (.v (.agg #[.int .u64 (w4 (V4 a0 a1 a2 a3 / 2 ^ n.toNat) 0), .int .u64 (w4 (V4 a0 a1 a2 a3 / 2 ^ n.toNat) 1), .int .u64 (w4 (V4 a0 a1 a2 a3 / 2 ^ n.toNat) 2), .int .u64 (w4 (V4 a0 a1 a2 a3 / 2 ^ n.toNat) 3)]))) := rfl
noncomputable def G62 : Gam := []
theorem G62_ok : GamOk Try.prog G62 := gamOk_nil
set_option maxHeartbeats 20000000 in
theorem w62 (a0 a1 a2 a3 : Int) (n : Int) (hp : ((0 ≤ a0 ∧ a0 < 18446744073709551616) ∧ (0 ≤ a1 ∧ a1 < 18446744073709551616) ∧ (0 ≤ a2 ∧ a2 < 18446744073709551616) ∧ (0 ≤ a3 ∧ a3 < 18446744073709551616)) ∧ 0 ≤ n ∧ n < 4000000000) : awp ty G62 (code Try.f62) (retP ty Try.f62.results.toList (.one (.v (.agg #[.int .u64 (w4 (V4 a0 a1 a2 a3 / 2 ^ n.toNat) 0), .int .u64 (w4 (V4 a0 a1 a2 a3 / 2 ^ n.toNat) 1), .int .u64 (w4 (V4 a0 a1 a2 a3 / 2 ^ n.toNat) 2), .int .u64 (w4 (V4 a0 a1 a2 a3 / 2 ^ n.toNat) 3)])))) (entry 0 [.v (.agg #[.int .u64 a0, .int .u64 a1, .int .u64 a2, .int .u64 a3]), .v (.int .i64 n)]) [] := by
  unfold code
  simp only [Try.f62, Option.getD_some]
  obtain ⟨k, rfl⟩ := Int.eq_ofNat_of_zero_le (show 0 ≤ n by omega)
  have hk : k = 64 * (k / 64) + k % 64 := by omega
  generalize hw : k / 64 = w at *
  generalize hs : k % 64 = s at *
  have hd : (k : Int).tdiv 64 = (w : Int) := by rw [Int.tdiv_eq_ediv_of_nonneg (by omega)]; omega
  have hm : (k : Int).tmod 64 = (s : Int) := by rw [Int.tmod_eq_emod_of_nonneg (by omega)]; omega
  have hmm : (s : Int) % 18446744073709551616 = (s : Int) := by omega
  have m1 : min s 64 = s := by omega
  have m2 : (64 - (s : Int)).toNat = 64 - s := by omega
  have m4 : (64 - (s : Int)) % 18446744073709551616 = 64 - (s : Int) := by omega
  have m3 : min (64 - s) 64 = 64 - s := by omega
  obtain ⟨ha0, ha1, ha2, ha3⟩ := hp.1
  have hw5 : w = 0 ∨ w = 1 ∨ w = 2 ∨ w = 3 ∨ 4 ≤ w := by omega
  rcases Nat.eq_zero_or_pos k with hk0 | hk0 <;> rcases Nat.eq_zero_or_pos s with hs0 | hs0 <;> rcases hw5 with hw0 | hw0 | hw0 | hw0 | hw0
  all_goals first
    | (exfalso; omega)
    | skip
  all_goals first
    | (have gk : decide ((k : Int) < 1) = false := by simp only [decide_eq_false_iff_not]; omega)
    | (have gk : decide ((k : Int) < 1) = true := by simp only [decide_eq_true_eq]; omega)
  all_goals first
    | (have gs : decide ((s : Int) > 0) = false := by simp only [decide_eq_false_iff_not]; omega)
    | (have gs : decide ((s : Int) > 0) = true := by simp only [decide_eq_true_eq]; omega)
  all_goals first
    | replace hd : (k : Int).tdiv 64 = 0 := by omega
    | replace hd : (k : Int).tdiv 64 = 1 := by omega
    | replace hd : (k : Int).tdiv 64 = 2 := by omega
    | replace hd : (k : Int).tdiv 64 = 3 := by omega
    | skip
  all_goals first
    | (have gw : decide ((0 : Int) < 4 - (w : Int)) = false := by simp only [decide_eq_false_iff_not]; omega)
    | (have gw : decide ((4 : Int) ≥ 5) = false := rfl)
  all_goals (obtain ⟨a0, rfl⟩ := Int.eq_ofNat_of_zero_le ha0.1)
  all_goals (obtain ⟨a1, rfl⟩ := Int.eq_ofNat_of_zero_le ha1.1)
  all_goals (obtain ⟨a2, rfl⟩ := Int.eq_ofNat_of_zero_le ha2.1)
  all_goals (obtain ⟨a3, rfl⟩ := Int.eq_ofNat_of_zero_le ha3.1)
  all_goals (have n0 : a0 < 18446744073709551616 := by omega)
  all_goals (have n1 : a1 < 18446744073709551616 := by omega)
  all_goals (have n2 : a2 < 18446744073709551616 := by omega)
  all_goals (have n3 : a3 < 18446744073709551616 := by omega)
  all_goals (have hs64 : s < 64 := by omega)
  all_goals (have or10 := shl_wordN n0 n1 hs64)
  all_goals (have or21 := shl_wordN n1 n2 hs64)
  all_goals (have or32 := shl_wordN n2 n3 hs64)
  all_goals (have ro01 := shr_wordN n0 n1 hs64)
  all_goals (have ro12 := shr_wordN n1 n2 hs64)
  all_goals (have ro23 := shr_wordN n2 n3 hs64)
  all_goals repeat' (first
    | ((first
       | (with_reducible refine ops_k ?_; intro X hX)
       | (with_reducible refine opsN_k ?_; intro X hX)
       | (with_reducible show awp _ _ _ _ (keepL _ _) _)
       | (with_reducible refine hX _ _ _ _ ?_; clear hX X)
       | (with_reducible refine opsD_k ?_; intro X hX)
       | with_reducible refine awp_cond_k ?_
       | (with_reducible refine Brk_i ?_ ?_ <;> intro hb <;> (try simp only [hb]) <;> have hq := hb <;> try simp only [decide_eq_true_eq, decide_eq_false_iff_not, gt_iff_lt, ge_iff_le, Int.not_lt, Int.not_le, beq_iff_eq, beq_eq_false_iff_ne, Bool.not_eq_true', Bool.not_eq_false', Bool.and_eq_true, Bool.or_eq_true, Bool.and_eq_false_imp, Bool.or_eq_false_iff, ne_eq, Classical.not_not] at hq)
       | with_reducible refine retP_ret_i ?_
       | with_reducible refine retP_normal_i ?_
       | (with_reducible (show bindG _ _ _ _ _); simp only [hall])) <;> try simp only [Go.AM.S1, Go.AM.S2, Go.AM.S3, Go.AM.S4, Go.AM.S5, Go.AM.S6, Go.AM.S7, Go.AM.S8, Go.AM.S9, Nat.reduceAdd, Nat.reduceMul, Nat.reduceSub, ↓reduceIte, Nat.reduceEqDiff, Nat.reduceLT, Nat.reduceLeDiff, reduceCtorEq, Int.reduceBEq, Int.reduceBNe, Nat.reduceBEq, Int.reduceEq, Int.reduceToNat, Int.reduceLE, Int.reduceLT, Nat.reduceDiv, Int.reduceAdd, Int.reduceSub, Int.reduceMul, Int.reduceNeg, Int.reduceGT, Int.reduceGE, Nat.reduceMod, ty_3, ty_26, ty_27, ty_72, hd, hm, hmm, m1, m2, m3, m4, IntKind.bits, gk, gs, gw, castShl, castShr, ro01, ro12, ro23])
    | (with_reducible refine hX _ _ ?_; clear hX X)
    | (with_reducible refine opsD_nil_i ?_; try clear hall all)
    | (with_reducible refine keysB_i ?_; kernel_rfl)
    | ((with_reducible show clashK _ _ _ = true); kernel_rfl)
    | (with_reducible refine ops_nil_i ?_; try clear hall all)
    | (with_reducible refine opsN_nil_i ?_; try clear hall all)
    | (with_reducible refine hK _ _ ?_; clear hK K)
    | with_reducible refine thenP_normal_i ?_
    | (with_reducible refine zzr11 _ _ ?_; try clear zzr11 Kzzr11)
    | (with_reducible refine zzsr5 _ _ ?_; try clear zzsr5 Kzzsr5)
    | (with_reducible refine zzb1 _ _ ?_; try clear zzb1 Kzzb1)
    | (with_reducible refine zzr9 _ _ ?_; try clear zzr9 Kzzr9)
    | (with_reducible refine zzr8 _ _ ?_; try clear zzr8 Kzzr8)
    | (with_reducible refine zzsr6 _ _ ?_; try clear zzsr6 Kzzsr6)
    | (with_reducible refine zzr6 _ _ ?_; try clear zzr6 Kzzr6)
    | (with_reducible refine zzr5 _ _ ?_; try clear zzr5 Kzzr5)
    | (with_reducible refine zzr4 _ _ ?_; try clear zzr4 Kzzr4)
    | (with_reducible refine zzr3 _ _ ?_; try clear zzr3 Kzzr3)
    | (with_reducible refine zzsr1 _ _ ?_; try clear zzsr1 Kzzsr1)
    | (with_reducible refine zzr2 _ _ ?_; try clear zzr2 Kzzr2)
    | (with_reducible refine zzr1 _ _ ?_; try clear zzr1 Kzzr1)
    | (with_reducible refine zzr0 _ _ ?_; try clear zzr0 Kzzr0)
    | (with_reducible refine awp_unroll (Nat.succ (Nat.succ (Nat.succ (Nat.succ (Nat.succ Nat.zero))))) ?_)
    | (with_reducible refine awp_seq_l (a := .region 11 _ _) [4] ?_; intro Kzzr11 zzr11)
    | (with_reducible refine awp_seq_l (a := .seq (.region 5 _ _) _) [4, 5] ?_; intro Kzzsr5 zzsr5)
    | (with_reducible refine awp_seq_l (a := .block 1 _) [2, 4, 5, 6, 7, 8] ?_; intro Kzzb1 zzb1)
    | (with_reducible refine awp_seq_l (a := .region 9 _ _) [2, 4, 5, 6, 7, 8, 44] ?_; intro Kzzr9 zzr9)
    | (with_reducible refine awp_seq_l (a := .region 8 _ _) [2, 4, 5, 6, 7, 8] ?_; intro Kzzr8 zzr8)
    | (with_reducible refine awp_seq_l (a := .seq (.region 6 _ _) _) [2, 4, 5, 6, 7, 8] ?_; intro Kzzsr6 zzsr6)
    | (with_reducible refine awp_seq_l (a := .region 6 _ _) [2, 4, 5, 6, 7, 8, 22] ?_; intro Kzzr6 zzr6)
    | (with_reducible refine awp_seq_l (a := .region 5 _ _) [2, 4, 5, 6, 7, 8] ?_; intro Kzzr5 zzr5)
    | (with_reducible refine awp_seq_l (a := .region 4 _ _) [2, 4, 5, 6, 7] ?_; intro Kzzr4 zzr4)
    | (with_reducible refine awp_seq_l (a := .region 3 _ _) [1, 2, 4, 5] ?_; intro Kzzr3 zzr3)
    | (with_reducible refine awp_seq_l (a := .seq (.region 1 _ _) _) [1, 2, 4] ?_; intro Kzzsr1 zzsr1)
    | (with_reducible refine awp_seq_l (a := .region 2 _ _) [4] ?_; intro Kzzr2 zzr2)
    | (with_reducible refine awp_seq_l (a := .region 1 _ _) [1, 2, 4, 10] ?_; intro Kzzr1 zzr1)
    | (with_reducible refine awp_seq_l (a := .region 0 _ _) [1, 2, 4] ?_; intro Kzzr0 zzr0)
    | (with_reducible refine awp_seq_k ?_; intro K hK)
    | (with_reducible refine awp_region_a ?_; intro all hall K hK)
    | (with_reducible refine awp_draw_a (id := 10) ?_ ?_; kernel_rfl; intro all hall K hK)
    | (with_reducible refine awp_draw_n ?_ ?_; kernel_rfl; intro all hall K hK)
    | (with_reducible refine Chk_i ?_ ?_)
    | (with_reducible refine keysC_i ?_; kernel_rfl)
    | (with_reducible first | refine awp_block_i ?_ | refine awp_skip_i ?_ | refine awp_ret_i ?_ | refine awp_exit_i ?_ | refine thenP_ret_i ?_ | refine thenP_exit_i ?_ | refine lpP_ret_i ?_ | refine lpP_exit_i ?_ | refine unrP_succ_i ?_ | refine unrP_ret_i ?_ | refine unrP_exit_i ?_ | refine blockP_normal_i ?_ | refine blockP_ret_i ?_)
    | (with_reducible refine blockP_exit_i ?_; simp only [↓reduceIte, Nat.reduceEqDiff])
    | with_reducible refine lpP_normal_i ?_)
  all_goals (try clear zzr0; try clear Kzzr0)
  all_goals (try clear zzr1; try clear Kzzr1)
  all_goals (try clear zzr2; try clear Kzzr2)
  all_goals (try clear zzsr1; try clear Kzzsr1)
  all_goals (try clear zzr3; try clear Kzzr3)
  all_goals (try clear zzr4; try clear Kzzr4)
  all_goals (try clear zzr5; try clear Kzzr5)
  all_goals (try clear zzr6; try clear Kzzr6)
  all_goals (try clear zzsr6; try clear Kzzsr6)
  all_goals (try clear zzr8; try clear Kzzr8)
  all_goals (try clear zzr9; try clear Kzzr9)
  all_goals (try clear zzb1; try clear Kzzb1)
  all_goals (try clear zzsr5; try clear Kzzsr5)
  all_goals (try clear zzr11; try clear Kzzr11)
  all_goals (try simp only [inR])
  all_goals first
    | omega
    | skip
  all_goals first
    | exact agg4 (shr4w  hk n0 n1 n2 n3 hs64 (.inl ⟨hw0, rfl, rfl, rfl, rfl⟩))
    | exact agg4 (shr4w  hk n0 n1 n2 n3 hs64 (.inl ⟨hw0, (by rw [lo0 hs0, Nat.add_zero]), (by rw [lo0 hs0, Nat.add_zero]), (by rw [lo0 hs0, Nat.add_zero]), rfl⟩))
    | exact agg4 (shr4w (o3 := 0) hk n0 n1 n2 n3 hs64 (.inr (.inl ⟨hw0, rfl, rfl, rfl, rfl⟩)))
    | exact agg4 (shr4w (o3 := 0) hk n0 n1 n2 n3 hs64 (.inr (.inl ⟨hw0, (by rw [lo0 hs0, Nat.add_zero]), (by rw [lo0 hs0, Nat.add_zero]), rfl, rfl⟩)))
    | exact agg4 (shr4w (o2 := 0) (o3 := 0) hk n0 n1 n2 n3 hs64 (.inr (.inr (.inl ⟨hw0, rfl, rfl, rfl, rfl⟩))))
    | exact agg4 (shr4w (o2 := 0) (o3 := 0) hk n0 n1 n2 n3 hs64 (.inr (.inr (.inl ⟨hw0, (by rw [lo0 hs0, Nat.add_zero]), rfl, rfl, rfl⟩))))
    | exact agg4 (shr4w (o1 := 0) (o2 := 0) (o3 := 0) hk n0 n1 n2 n3 hs64 (.inr (.inr (.inr (.inl ⟨hw0, rfl, rfl, rfl, rfl⟩)))))
    | exact agg4 (shr4w (o1 := 0) (o2 := 0) (o3 := 0) hk n0 n1 n2 n3 hs64 (.inr (.inr (.inr (.inl ⟨hw0, rfl, rfl, rfl, rfl⟩)))))
    | exact agg4 (shr4w (o0 := 0) (o1 := 0) (o2 := 0) (o3 := 0) hk n0 n1 n2 n3 hs64 (.inr (.inr (.inr (.inr ⟨hw0, rfl, rfl, rfl, rfl⟩)))))
    | exact agg4 (shr4w (o0 := 0) (o1 := 0) (o2 := 0) (o3 := 0) hk n0 n1 n2 n3 hs64 (.inr (.inr (.inr (.inr ⟨hw0, rfl, rfl, rfl, rfl⟩)))))
    | (rw [hk0, Nat.pow_zero, Nat.div_one]
       obtain ⟨f0, f1, f2, f3⟩ := w4_V4 ha0 ha1 ha2 ha3
       rw [f0, f1, f2, f3])
theorem sound_62 : Sound Try.prog 62 .body (norm s62) := by
  refine sound_norm (sound_body Try.func62 (show Try.f62.body = some (code Try.f62) from rfl) (by kernel_rfl) tysOk G62_ok (drawOk_ok (by kernel_rfl) tysOk G62_ok) (by kernel_rfl) fun ds p r hs hp => ?_)
  unfold s62 at hs
  split at hs
  · cases hs; exact ⟨Nat.le_of_ble_eq_true (by kernel_rfl), w62 _ _ _ _ _ hp⟩
  · cases hs
end Go.Proofs.AMT
set_option maxRecDepth 20000
namespace Go.Proofs.AMT
open Go.AM Go.AM.LN
attribute [local congr] bindO_congr bindS_congr bindG_congr awpOps_congr aOne_congr awp_congr aCond_congr awpD_congr dOne_congr keysB_congr nOne_congr thenP_congr blockP_congr Chk_congr Brk_congr
noncomputable def s65 : CSpec := fun ds => match ds with
  | [.v (.agg ⟨[.int .u64 a0, .int .u64 a1, .int .u64 a2, .int .u64 a3]⟩), .v (.int .i64 n)] => some (((0 ≤ a0 ∧ a0 < 18446744073709551616) ∧ (0 ≤ a1 ∧ a1 < 18446744073709551616) ∧ (0 ≤ a2 ∧ a2 < 18446744073709551616) ∧ (0 ≤ a3 ∧ a3 < 18446744073709551616)) ∧ 0 ≤ n ∧ n < 4000000000, .one (.v (.agg #[.int .u64 (w4 (V4 a0 a1 a2 a3 * 2 ^ n.toNat % 2 ^ 256) 0), .int .u64 (w4 (V4 a0 a1 a2 a3 * 2 ^ n.toNat % 2 ^ 256) 1), .int .u64 (w4 (V4 a0 a1 a2 a3 * 2 ^ n.toNat % 2 ^ 256) 2), .int .u64 (w4 (V4 a0 a1 a2 a3 * 2 ^ n.toNat % 2 ^ 256) 3)])))
  | _ => none
theorem s65_eq (a0 a1 a2 a3 : Int) (n : Int) : norm s65 [.v (.agg #[.int .u64 a0, .int .u64 a1, .int .u64 a2, .int .u64 a3]), .v (.int .i64 n)] = some (((0 ≤ a0 ∧ a0 < 18446744073709551616) ∧ (0 ≤ a1 ∧ a1 < 18446744073709551616) ∧ (0 ≤ a2 ∧ a2 < 18446744073709551616) ∧ (0 ≤ a3 ∧ a3 < 18446744073709551616)) ∧ 0 ≤ n ∧ n < 4000000000, .one (.v (.agg #[.int .u64 (w4 (V4 a0 a1 a2 a3 * 2 ^ n.toNat % 2 ^ 256) 0), .int .u64 (w4 (V4 a0 a1 a2 a3 * 2 ^ n.toNat % 2 ^ 256) 1), .int .u64 (w4 (V4 a0 a1 a2 a3 * 2 ^ n.toNat % 2 ^ 256) 2), .int .u64 (w4 (V4 a0 a1 a2 a3 * 2 ^ n.toNat % 2 ^ 256) 3)]))) := rfl
noncomputable def G65 : Gam := []
theorem G65_ok : GamOk Try.prog G65 := gamOk_nil
set_option maxHeartbeats 20000000 in
theorem w65 (a0 a1 a2 a3 : Int) (n : Int) (hp : ((0 ≤ a0 ∧ a0 < 18446744073709551616) ∧ (0 ≤ a1 ∧ a1 < 18446744073709551616) ∧ (0 ≤ a2 ∧ a2 < 18446744073709551616) ∧ (0 ≤ a3 ∧ a3 < 18446744073709551616)) ∧ 0 ≤ n ∧ n < 4000000000) : awp ty G65 (code Try.f65) (retP ty Try.f65.results.toList (.one (.v (.agg #[.int .u64 (w4 (V4 a0 a1 a2 a3 * 2 ^ n.toNat % 2 ^ 256) 0), .int .u64 (w4 (V4 a0 a1 a2 a3 * 2 ^ n.toNat % 2 ^ 256) 1), .int .u64 (w4 (V4 a0 a1 a2 a3 * 2 ^ n.toNat % 2 ^ 256) 2), .int .u64 (w4 (V4 a0 a1 a2 a3 * 2 ^ n.toNat % 2 ^ 256) 3)])))) (entry 0 [.v (.agg #[.int .u64 a0, .int .u64 a1, .int .u64 a2, .int .u64 a3]), .v (.int .i64 n)]) [] := by
  unfold code
  simp only [Try.f65, Option.getD_some]
  obtain ⟨k, rfl⟩ := Int.eq_ofNat_of_zero_le (show 0 ≤ n by omega)
  have hk : k = 64 * (k / 64) + k % 64 := by omega
  generalize hw : k / 64 = w at *
  generalize hs : k % 64 = s at *
  have hd : (k : Int).tdiv 64 = (w : Int) := by rw [Int.tdiv_eq_ediv_of_nonneg (by omega)]; omega
  have hm : (k : Int).tmod 64 = (s : Int) := by rw [Int.tmod_eq_emod_of_nonneg (by omega)]; omega
  have hmm : (s : Int) % 18446744073709551616 = (s : Int) := by omega
  have m1 : min s 64 = s := by omega
  have m2 : (64 - (s : Int)).toNat = 64 - s := by omega
  have m4 : (64 - (s : Int)) % 18446744073709551616 = 64 - (s : Int) := by omega
  have m3 : min (64 - s) 64 = 64 - s := by omega
  obtain ⟨ha0, ha1, ha2, ha3⟩ := hp.1
  have hw5 : w = 0 ∨ w = 1 ∨ w = 2 ∨ w = 3 ∨ 4 ≤ w := by omega
  rcases Nat.eq_zero_or_pos k with hk0 | hk0 <;> rcases Nat.eq_zero_or_pos s with hs0 | hs0 <;> rcases hw5 with hw0 | hw0 | hw0 | hw0 | hw0
  all_goals first
    | (exfalso; omega)
    | skip
  all_goals first
    | (have gk : decide ((k : Int) < 1) = false := by simp only [decide_eq_false_iff_not]; omega)
    | (have gk : decide ((k : Int) < 1) = true := by simp only [decide_eq_true_eq]; omega)
  all_goals first
    | (have gs : decide ((s : Int) > 0) = false := by simp only [decide_eq_false_iff_not]; omega)
    | (have gs : decide ((s : Int) > 0) = true := by simp only [decide_eq_true_eq]; omega)
  all_goals first
    | replace hd : (k : Int).tdiv 64 = 0 := by omega
    | replace hd : (k : Int).tdiv 64 = 1 := by omega
    | replace hd : (k : Int).tdiv 64 = 2 := by omega
    | replace hd : (k : Int).tdiv 64 = 3 := by omega
    | skip
  all_goals first
    | (have gw : decide ((3 : Int) ≥ (w : Int)) = false := by simp only [decide_eq_false_iff_not]; omega)
    | (have gw : decide ((4 : Int) ≥ 5) = false := rfl)
  all_goals (obtain ⟨a0, rfl⟩ := Int.eq_ofNat_of_zero_le ha0.1)
  all_goals (obtain ⟨a1, rfl⟩ := Int.eq_ofNat_of_zero_le ha1.1)
  all_goals (obtain ⟨a2, rfl⟩ := Int.eq_ofNat_of_zero_le ha2.1)
  all_goals (obtain ⟨a3, rfl⟩ := Int.eq_ofNat_of_zero_le ha3.1)
  all_goals (have n0 : a0 < 18446744073709551616 := by omega)
  all_goals (have n1 : a1 < 18446744073709551616 := by omega)
  all_goals (have n2 : a2 < 18446744073709551616 := by omega)
  all_goals (have n3 : a3 < 18446744073709551616 := by omega)
  all_goals (have hs64 : s < 64 := by omega)
  all_goals (have or10 := shl_wordN n0 n1 hs64)
  all_goals (have or21 := shl_wordN n1 n2 hs64)
  all_goals (have or32 := shl_wordN n2 n3 hs64)
  all_goals (have ro01 := shr_wordN n0 n1 hs64)
  all_goals (have ro12 := shr_wordN n1 n2 hs64)
  all_goals (have ro23 := shr_wordN n2 n3 hs64)
  all_goals repeat' (first
    | ((first
       | (with_reducible refine ops_k ?_; intro X hX)
       | (with_reducible refine opsN_k ?_; intro X hX)
       | (with_reducible show awp _ _ _ _ (keepL _ _) _)
       | (with_reducible refine hX _ _ _ _ ?_; clear hX X)
       | (with_reducible refine opsD_k ?_; intro X hX)
       | with_reducible refine awp_cond_k ?_
       | (with_reducible refine Brk_i ?_ ?_ <;> intro hb <;> (try simp only [hb]) <;> have hq := hb <;> try simp only [decide_eq_true_eq, decide_eq_false_iff_not, gt_iff_lt, ge_iff_le, Int.not_lt, Int.not_le, beq_iff_eq, beq_eq_false_iff_ne, Bool.not_eq_true', Bool.not_eq_false', Bool.and_eq_true, Bool.or_eq_true, Bool.and_eq_false_imp, Bool.or_eq_false_iff, ne_eq, Classical.not_not] at hq)
       | with_reducible refine retP_ret_i ?_
       | with_reducible refine retP_normal_i ?_
       | (with_reducible (show bindG _ _ _ _ _); simp only [hall])) <;> try simp only [Go.AM.S1, Go.AM.S2, Go.AM.S3, Go.AM.S4, Go.AM.S5, Go.AM.S6, Go.AM.S7, Go.AM.S8, Go.AM.S9, Nat.reduceAdd, Nat.reduceMul, Nat.reduceSub, ↓reduceIte, Nat.reduceEqDiff, Nat.reduceLT, Nat.reduceLeDiff, reduceCtorEq, Int.reduceBEq, Int.reduceBNe, Nat.reduceBEq, Int.reduceEq, Int.reduceToNat, Int.reduceLE, Int.reduceLT, Nat.reduceDiv, Int.reduceAdd, Int.reduceSub, Int.reduceMul, Int.reduceNeg, Int.reduceGT, Int.reduceGE, Nat.reduceMod, ty_3, ty_26, ty_27, ty_72, hd, hm, hmm, m1, m2, m3, m4, IntKind.bits, gk, gs, gw, castShl, castShr, or10, or21, or32])
    | (with_reducible refine hX _ _ ?_; clear hX X)
    | (with_reducible refine opsD_nil_i ?_; try clear hall all)
    | (with_reducible refine keysB_i ?_; kernel_rfl)
    | ((with_reducible show clashK _ _ _ = true); kernel_rfl)
    | (with_reducible refine ops_nil_i ?_; try clear hall all)
    | (with_reducible refine opsN_nil_i ?_; try clear hall all)
    | (with_reducible refine hK _ _ ?_; clear hK K)
    | with_reducible refine thenP_normal_i ?_
    | (with_reducible refine zzr11 _ _ ?_; try clear zzr11 Kzzr11)
    | (with_reducible refine zzsr5 _ _ ?_; try clear zzsr5 Kzzsr5)
    | (with_reducible refine zzb1 _ _ ?_; try clear zzb1 Kzzb1)
    | (with_reducible refine zzr9 _ _ ?_; try clear zzr9 Kzzr9)
    | (with_reducible refine zzr8 _ _ ?_; try clear zzr8 Kzzr8)
    | (with_reducible refine zzsr6 _ _ ?_; try clear zzsr6 Kzzsr6)
    | (with_reducible refine zzr6 _ _ ?_; try clear zzr6 Kzzr6)
    | (with_reducible refine zzr5 _ _ ?_; try clear zzr5 Kzzr5)
    | (with_reducible refine zzr4 _ _ ?_; try clear zzr4 Kzzr4)
    | (with_reducible refine zzr3 _ _ ?_; try clear zzr3 Kzzr3)
    | (with_reducible refine zzsr1 _ _ ?_; try clear zzsr1 Kzzsr1)
    | (with_reducible refine zzr2 _ _ ?_; try clear zzr2 Kzzr2)
    | (with_reducible refine zzr1 _ _ ?_; try clear zzr1 Kzzr1)
    | (with_reducible refine zzr0 _ _ ?_; try clear zzr0 Kzzr0)
    | (with_reducible refine awp_unroll (Nat.succ (Nat.succ (Nat.succ (Nat.succ (Nat.succ Nat.zero))))) ?_)
    | (with_reducible refine awp_seq_l (a := .region 11 _ _) [4] ?_; intro Kzzr11 zzr11)
    | (with_reducible refine awp_seq_l (a := .seq (.region 5 _ _) _) [4, 5] ?_; intro Kzzsr5 zzsr5)
    | (with_reducible refine awp_seq_l (a := .block 1 _) [2, 4, 5, 6, 7, 8] ?_; intro Kzzb1 zzb1)
    | (with_reducible refine awp_seq_l (a := .region 9 _ _) [2, 4, 5, 6, 7, 8, 40] ?_; intro Kzzr9 zzr9)
    | (with_reducible refine awp_seq_l (a := .region 8 _ _) [2, 4, 5, 6, 7, 8] ?_; intro Kzzr8 zzr8)
    | (with_reducible refine awp_seq_l (a := .seq (.region 6 _ _) _) [2, 4, 5, 6, 7, 8] ?_; intro Kzzsr6 zzsr6)
    | (with_reducible refine awp_seq_l (a := .region 6 _ _) [2, 4, 5, 6, 7, 8, 22] ?_; intro Kzzr6 zzr6)
    | (with_reducible refine awp_seq_l (a := .region 5 _ _) [2, 4, 5, 6, 7, 8] ?_; intro Kzzr5 zzr5)
    | (with_reducible refine awp_seq_l (a := .region 4 _ _) [2, 4, 5, 6, 7] ?_; intro Kzzr4 zzr4)
    | (with_reducible refine awp_seq_l (a := .region 3 _ _) [1, 2, 4, 5] ?_; intro Kzzr3 zzr3)
    | (with_reducible refine awp_seq_l (a := .seq (.region 1 _ _) _) [1, 2, 4] ?_; intro Kzzsr1 zzsr1)
    | (with_reducible refine awp_seq_l (a := .region 2 _ _) [4] ?_; intro Kzzr2 zzr2)
    | (with_reducible refine awp_seq_l (a := .region 1 _ _) [1, 2, 4, 10] ?_; intro Kzzr1 zzr1)
    | (with_reducible refine awp_seq_l (a := .region 0 _ _) [1, 2, 4] ?_; intro Kzzr0 zzr0)
    | (with_reducible refine awp_seq_k ?_; intro K hK)
    | (with_reducible refine awp_region_a ?_; intro all hall K hK)
    | (with_reducible refine awp_draw_a (id := 10) ?_ ?_; kernel_rfl; intro all hall K hK)
    | (with_reducible refine awp_draw_n ?_ ?_; kernel_rfl; intro all hall K hK)
    | (with_reducible refine Chk_i ?_ ?_)
    | (with_reducible refine keysC_i ?_; kernel_rfl)
    | (with_reducible first | refine awp_block_i ?_ | refine awp_skip_i ?_ | refine awp_ret_i ?_ | refine awp_exit_i ?_ | refine thenP_ret_i ?_ | refine thenP_exit_i ?_ | refine lpP_ret_i ?_ | refine lpP_exit_i ?_ | refine unrP_succ_i ?_ | refine unrP_ret_i ?_ | refine unrP_exit_i ?_ | refine blockP_normal_i ?_ | refine blockP_ret_i ?_)
    | (with_reducible refine blockP_exit_i ?_; simp only [↓reduceIte, Nat.reduceEqDiff])
    | with_reducible refine lpP_normal_i ?_)
  all_goals (try clear zzr0; try clear Kzzr0)
  all_goals (try clear zzr1; try clear Kzzr1)
  all_goals (try clear zzr2; try clear Kzzr2)
  all_goals (try clear zzsr1; try clear Kzzsr1)
  all_goals (try clear zzr3; try clear Kzzr3)
  all_goals (try clear zzr4; try clear Kzzr4)
  all_goals (try clear zzr5; try clear Kzzr5)
  all_goals (try clear zzr6; try clear Kzzr6)
  all_goals (try clear zzsr6; try clear Kzzsr6)
  all_goals (try clear zzr8; try clear Kzzr8)
  all_goals (try clear zzr9; try clear Kzzr9)
  all_goals (try clear zzb1; try clear Kzzb1)
  all_goals (try clear zzsr5; try clear Kzzsr5)
  all_goals (try clear zzr11; try clear Kzzr11)
  all_goals (try simp only [inR])
  all_goals first
    | omega
    | skip
  all_goals first
    | exact agg4 (shl4w  hk n0 n1 n2 n3 hs64 (.inl ⟨hw0, rfl, rfl, rfl, rfl⟩))
    | exact agg4 (shl4w  hk n0 n1 n2 n3 hs64 (.inl ⟨hw0, rfl, (by rw [hi0 n0 hs0, Nat.add_zero]), (by rw [hi0 n1 hs0, Nat.add_zero]), (by rw [hi0 n2 hs0, Nat.add_zero])⟩))
    | exact agg4 (shl4w (o0 := 0) hk n0 n1 n2 n3 hs64 (.inr (.inl ⟨hw0, rfl, rfl, rfl, rfl⟩)))
    | exact agg4 (shl4w (o0 := 0) hk n0 n1 n2 n3 hs64 (.inr (.inl ⟨hw0, rfl, rfl, (by rw [hi0 n0 hs0, Nat.add_zero]), (by rw [hi0 n1 hs0, Nat.add_zero])⟩)))
    | exact agg4 (shl4w (o0 := 0) (o1 := 0) hk n0 n1 n2 n3 hs64 (.inr (.inr (.inl ⟨hw0, rfl, rfl, rfl, rfl⟩))))
    | exact agg4 (shl4w (o0 := 0) (o1 := 0) hk n0 n1 n2 n3 hs64 (.inr (.inr (.inl ⟨hw0, rfl, rfl, rfl, (by rw [hi0 n0 hs0, Nat.add_zero])⟩))))
    | exact agg4 (shl4w (o0 := 0) (o1 := 0) (o2 := 0) hk n0 n1 n2 n3 hs64 (.inr (.inr (.inr (.inl ⟨hw0, rfl, rfl, rfl, rfl⟩)))))
    | exact agg4 (shl4w (o0 := 0) (o1 := 0) (o2 := 0) hk n0 n1 n2 n3 hs64 (.inr (.inr (.inr (.inl ⟨hw0, rfl, rfl, rfl, rfl⟩)))))
    | exact agg4 (shl4w (o0 := 0) (o1 := 0) (o2 := 0) (o3 := 0) hk n0 n1 n2 n3 hs64 (.inr (.inr (.inr (.inr ⟨hw0, rfl, rfl, rfl, rfl⟩)))))
    | exact agg4 (shl4w (o0 := 0) (o1 := 0) (o2 := 0) (o3 := 0) hk n0 n1 n2 n3 hs64 (.inr (.inr (.inr (.inr ⟨hw0, rfl, rfl, rfl, rfl⟩)))))
    | (rw [hk0, Nat.pow_zero, Nat.mul_one, Nat.mod_eq_of_lt (V4_lt ha0 ha1 ha2 ha3)]
       obtain ⟨f0, f1, f2, f3⟩ := w4_V4 ha0 ha1 ha2 ha3
       rw [f0, f1, f2, f3])
theorem sound_65 : Sound Try.prog 65 .body (norm s65) := by
  refine sound_norm (sound_body Try.func65 (show Try.f65.body = some (code Try.f65) from rfl) (by kernel_rfl) tysOk G65_ok (drawOk_ok (by kernel_rfl) tysOk G65_ok) (by kernel_rfl) fun ds p r hs hp => ?_)
  unfold s65 at hs
  split at hs
  · cases hs; exact ⟨Nat.le_of_ble_eq_true (by kernel_rfl), w65 _ _ _ _ _ hp⟩
  · cases hs
end Go.Proofs.AMT
set_option maxRecDepth 20000
namespace Go.Proofs.AMT
open Go.AM Go.AM.LN
attribute [local congr] bindO_congr bindS_congr bindG_congr awpOps_congr aOne_congr awp_congr aCond_congr awpD_congr dOne_congr keysB_congr nOne_congr thenP_congr blockP_congr Chk_congr Brk_congr
noncomputable def s92 : CSpec := fun ds => match ds with
  | [.v (.agg ⟨[.int .u64 a0, .int .u64 a1, .int .u64 a2, .int .u64 a3]⟩), .v (.agg ⟨[.int .u64 b0, .int .u64 b1, .int .u64 b2, .int .u64 b3]⟩)] => some (((0 ≤ a0 ∧ a0 < 18446744073709551616) ∧ (0 ≤ a1 ∧ a1 < 18446744073709551616) ∧ (0 ≤ a2 ∧ a2 < 18446744073709551616) ∧ (0 ≤ a3 ∧ a3 < 18446744073709551616)) ∧ ((0 ≤ b0 ∧ b0 < 18446744073709551616) ∧ (0 ≤ b1 ∧ b1 < 18446744073709551616) ∧ (0 ≤ b2 ∧ b2 < 18446744073709551616) ∧ (0 ≤ b3 ∧ b3 < 18446744073709551616)) ∧ V4 b0 b1 b2 b3 ≤ V4 a0 a1 a2 a3, .many [.v (.agg #[.int .u64 (w4 (V4 a0 a1 a2 a3 - V4 b0 b1 b2 b3) 0), .int .u64 (w4 (V4 a0 a1 a2 a3 - V4 b0 b1 b2 b3) 1), .int .u64 (w4 (V4 a0 a1 a2 a3 - V4 b0 b1 b2 b3) 2), .int .u64 (w4 (V4 a0 a1 a2 a3 - V4 b0 b1 b2 b3) 3)]), .v (.int .u64 0)])
  | _ => none
theorem s92_eq (a0 a1 a2 a3 : Int) (b0 b1 b2 b3 : Int) : norm s92 [.v (.agg #[.int .u64 a0, .int .u64 a1, .int .u64 a2, .int .u64 a3]), .v (.agg #[.int .u64 b0, .int .u64 b1, .int .u64 b2, .int .u64 b3])] = some (((0 ≤ a0 ∧ a0 < 18446744073709551616) ∧ (0 ≤ a1 ∧ a1 < 18446744073709551616) ∧ (0 ≤ a2 ∧ a2 < 18446744073709551616) ∧ (0 ≤ a3 ∧ a3 < 18446744073709551616)) ∧ ((0 ≤ b0 ∧ b0 < 18446744073709551616) ∧ (0 ≤ b1 ∧ b1 < 18446744073709551616) ∧ (0 ≤ b2 ∧ b2 < 18446744073709551616) ∧ (0 ≤ b3 ∧ b3 < 18446744073709551616)) ∧ V4 b0 b1 b2 b3 ≤ V4 a0 a1 a2 a3, .many [.v (.agg #[.int .u64 (w4 (V4 a0 a1 a2 a3 - V4 b0 b1 b2 b3) 0), .int .u64 (w4 (V4 a0 a1 a2 a3 - V4 b0 b1 b2 b3) 1), .int .u64 (w4 (V4 a0 a1 a2 a3 - V4 b0 b1 b2 b3) 2), .int .u64 (w4 (V4 a0 a1 a2 a3 - V4 b0 b1 b2 b3) 3)]), .v (.int .u64 0)]) := rfl
noncomputable def G92 : Gam := [(98, .ext, sSub64)]
theorem G92_ok : GamOk Try.prog G92 := gamOk_cons ext_98 gamOk_nil
theorem k92_98 : lk G92 98 = some (.ext, sSub64) := rfl
set_option maxHeartbeats 20000000 in
theorem w92 (a0 a1 a2 a3 : Int) (b0 b1 b2 b3 : Int) (hp : ((0 ≤ a0 ∧ a0 < 18446744073709551616) ∧ (0 ≤ a1 ∧ a1 < 18446744073709551616) ∧ (0 ≤ a2 ∧ a2 < 18446744073709551616) ∧ (0 ≤ a3 ∧ a3 < 18446744073709551616)) ∧ ((0 ≤ b0 ∧ b0 < 18446744073709551616) ∧ (0 ≤ b1 ∧ b1 < 18446744073709551616) ∧ (0 ≤ b2 ∧ b2 < 18446744073709551616) ∧ (0 ≤ b3 ∧ b3 < 18446744073709551616)) ∧ V4 b0 b1 b2 b3 ≤ V4 a0 a1 a2 a3) : awp ty G92 (code Try.f92) (retP ty Try.f92.results.toList (.many [.v (.agg #[.int .u64 (w4 (V4 a0 a1 a2 a3 - V4 b0 b1 b2 b3) 0), .int .u64 (w4 (V4 a0 a1 a2 a3 - V4 b0 b1 b2 b3) 1), .int .u64 (w4 (V4 a0 a1 a2 a3 - V4 b0 b1 b2 b3) 2), .int .u64 (w4 (V4 a0 a1 a2 a3 - V4 b0 b1 b2 b3) 3)]), .v (.int .u64 0)])) (entry 0 [.v (.agg #[.int .u64 a0, .int .u64 a1, .int .u64 a2, .int .u64 a3]), .v (.agg #[.int .u64 b0, .int .u64 b1, .int .u64 b2, .int .u64 b3])]) [] := by
  unfold code
  simp only [Try.f92, Option.getD_some]
  all_goals repeat' (first
    | ((first
       | (with_reducible refine ops_k ?_; intro X hX)
       | (with_reducible refine opsN_k ?_; intro X hX)
       | (with_reducible show awp _ _ _ _ (keepL _ _) _)
       | (with_reducible refine hX _ _ _ _ ?_; clear hX X)
       | (with_reducible refine opsD_k ?_; intro X hX)
       | with_reducible refine awp_cond_k ?_
       | (with_reducible refine Brk_i ?_ ?_ <;> intro hb <;> (try simp only [hb]) <;> have hq := hb <;> try simp only [decide_eq_true_eq, decide_eq_false_iff_not, gt_iff_lt, ge_iff_le, Int.not_lt, Int.not_le, beq_iff_eq, beq_eq_false_iff_ne, Bool.not_eq_true', Bool.not_eq_false', Bool.and_eq_true, Bool.or_eq_true, Bool.and_eq_false_imp, Bool.or_eq_false_iff, ne_eq, Classical.not_not] at hq)
       | with_reducible refine retP_ret_i ?_
       | with_reducible refine retP_normal_i ?_
       | (with_reducible (show bindG _ _ _ _ _); simp only [hall])) <;> try simp only [Go.AM.S1, Go.AM.S2, Go.AM.S3, Go.AM.S4, Go.AM.S5, Go.AM.S6, Go.AM.S7, Go.AM.S8, Go.AM.S9, Nat.reduceAdd, Nat.reduceMul, Nat.reduceSub, ↓reduceIte, Nat.reduceEqDiff, Nat.reduceLT, Nat.reduceLeDiff, reduceCtorEq, Int.reduceBEq, Int.reduceBNe, Nat.reduceBEq, Int.reduceEq, Int.reduceToNat, Int.reduceLE, Int.reduceLT, Nat.reduceDiv, Int.reduceAdd, Int.reduceSub, Int.reduceMul, Int.reduceNeg, Int.reduceGT, Int.reduceGE, Nat.reduceMod, k92_98, sSub64_eq, ty_3, ty_26, ty_27, Int.sub_zero, Int.add_zero])
    | (with_reducible refine hX _ _ ?_; clear hX X)
    | (with_reducible refine opsD_nil_i ?_; try clear hall all)
    | (with_reducible refine keysB_i ?_; kernel_rfl)
    | ((with_reducible show clashK _ _ _ = true); kernel_rfl)
    | (with_reducible refine ops_nil_i ?_; try clear hall all)
    | (with_reducible refine opsN_nil_i ?_; try clear hall all)
    | (with_reducible refine hK _ _ ?_; clear hK K)
    | with_reducible refine thenP_normal_i ?_
    | (with_reducible refine zzr7 _ _ ?_; try clear zzr7 Kzzr7)
    | (with_reducible refine zzsr2 _ _ ?_; try clear zzsr2 Kzzsr2)
    | (with_reducible refine zzb1 _ _ ?_; try clear zzb1 Kzzb1)
    | (with_reducible refine zzr4 _ _ ?_; try clear zzr4 Kzzr4)
    | (with_reducible refine zzctmp11 _ _ ?_; try clear zzctmp11 Kzzctmp11)
    | (with_reducible refine zzr3 _ _ ?_; try clear zzr3 Kzzr3)
    | (with_reducible refine zzr2 _ _ ?_; try clear zzr2 Kzzr2)
    | (with_reducible refine zzr1 _ _ ?_; try clear zzr1 Kzzr1)
    | (with_reducible refine zzr0 _ _ ?_; try clear zzr0 Kzzr0)
    | (with_reducible refine awp_unroll (Nat.succ (Nat.succ (Nat.succ (Nat.succ (Nat.succ Nat.zero))))) ?_)
    | (with_reducible refine awp_seq_l (a := .region 7 _ _) [4, 5] ?_; intro Kzzr7 zzr7)
    | (with_reducible refine awp_seq_l (a := .seq (.region 2 _ _) _) [2, 4, 6] ?_; intro Kzzsr2 zzsr2)
    | (with_reducible refine awp_seq_l (a := .block 1 _) [2, 3, 4, 6, 9, 10] ?_; intro Kzzb1 zzb1)
    | (with_reducible refine awp_seq_l (a := .region 4 _ _) [2, 3, 4, 6, 7, 9, 10] ?_; intro Kzzr4 zzr4)
    | (with_reducible refine awp_seq_l (a := .cond (.tmp 11) _ _) [2, 3, 4, 6, 9, 10] ?_; intro Kzzctmp11 zzctmp11)
    | (with_reducible refine awp_seq_l (a := .region 3 _ _) [2, 3, 4, 6, 9, 10, 11] ?_; intro Kzzr3 zzr3)
    | (with_reducible refine awp_seq_l (a := .region 2 _ _) [2, 3, 4, 6, 9, 10] ?_; intro Kzzr2 zzr2)
    | (with_reducible refine awp_seq_l (a := .region 1 _ _) [2, 3, 4, 6] ?_; intro Kzzr1 zzr1)
    | (with_reducible refine awp_seq_l (a := .region 0 _ _) [2, 3, 4] ?_; intro Kzzr0 zzr0)
    | (with_reducible refine awp_seq_k ?_; intro K hK)
    | (with_reducible refine awp_region_a ?_; intro all hall K hK)
    | (with_reducible refine awp_draw_a (id := 5) ?_ ?_; kernel_rfl; intro all hall K hK)
    | (with_reducible refine awp_draw_n ?_ ?_; kernel_rfl; intro all hall K hK)
    | (with_reducible refine Chk_i ?_ ?_)
    | (with_reducible refine keysC_i ?_; kernel_rfl)
    | (with_reducible first | refine awp_block_i ?_ | refine awp_skip_i ?_ | refine awp_ret_i ?_ | refine awp_exit_i ?_ | refine thenP_ret_i ?_ | refine thenP_exit_i ?_ | refine lpP_ret_i ?_ | refine lpP_exit_i ?_ | refine unrP_succ_i ?_ | refine unrP_ret_i ?_ | refine unrP_exit_i ?_ | refine blockP_normal_i ?_ | refine blockP_ret_i ?_)
    | (with_reducible refine blockP_exit_i ?_; simp only [↓reduceIte, Nat.reduceEqDiff])
    | with_reducible refine lpP_normal_i ?_)
  all_goals (try clear zzr0; try clear Kzzr0)
  all_goals (try clear zzr1; try clear Kzzr1)
  all_goals (try clear zzr2; try clear Kzzr2)
  all_goals (try clear zzr3; try clear Kzzr3)
  all_goals (try clear zzctmp11; try clear Kzzctmp11)
  all_goals (try clear zzr4; try clear Kzzr4)
  all_goals (try clear zzb1; try clear Kzzb1)
  all_goals (try clear zzsr2; try clear Kzzsr2)
  all_goals (try clear zzr7; try clear Kzzr7)
  all_goals (try simp only [inR])
  all_goals first
    | omega
    | exact ⟨hp.1.1.1, hp.1.1.2, hp.2.1.1.1, hp.2.1.1.2⟩
    | skip
  obtain ⟨⟨x0, x1, x2, x3⟩, ⟨y0, y1, y2, y3⟩, hle⟩ := hp
  obtain ⟨f0, f1, f2, f3, f4⟩ := sub4 x0 x1 x2 x3 y0 y1 y2 y3 ite01 ite01 ite01 ite01 hle
  rw [f0, f1, f2, f3, f4]
  all_goals (first | rfl | exact ⟨rfl, rfl⟩)
theorem sound_92 : Sound Try.prog 92 .body (norm s92) := by
  refine sound_norm (sound_body Try.func92 (show Try.f92.body = some (code Try.f92) from rfl) (by kernel_rfl) tysOk G92_ok (drawOk_ok (by kernel_rfl) tysOk G92_ok) (by kernel_rfl) fun ds p r hs hp => ?_)
  unfold s92 at hs
  split at hs
  · cases hs; exact ⟨Nat.le_of_ble_eq_true (by kernel_rfl), w92 _ _ _ _ _ _ _ _ hp⟩
  · cases hs
end Go.Proofs.AMT
set_option maxRecDepth 20000
namespace Go.Proofs.AMT
open Go.AM Go.AM.LN
attribute [local congr] bindO_congr bindS_congr bindG_congr awpOps_congr aOne_congr awp_congr aCond_congr awpD_congr dOne_congr keysB_congr nOne_congr thenP_congr blockP_congr Chk_congr Brk_congr
noncomputable def s93 : CSpec := fun ds => match ds with
  | [.v (.int .u64 x)] => some (True, .one (.v (.agg #[.int .u64 x, .int .u64 0, .int .u64 0, .int .u64 0])))
  | _ => none
theorem s93_eq (x : Int) : norm s93 [.v (.int .u64 x)] = some (True, .one (.v (.agg #[.int .u64 x, .int .u64 0, .int .u64 0, .int .u64 0]))) := rfl
noncomputable def G93 : Gam := []
theorem G93_ok : GamOk Try.prog G93 := gamOk_nil
set_option maxHeartbeats 20000000 in
theorem w93 (x : Int) (hp : True) : awp ty G93 (code Try.f93) (retP ty Try.f93.results.toList (.one (.v (.agg #[.int .u64 x, .int .u64 0, .int .u64 0, .int .u64 0])))) (entry 0 [.v (.int .u64 x)]) [] := by
  unfold code
  simp only [Try.f93, Option.getD_some]
  all_goals repeat' (first
    | ((first
       | (with_reducible refine ops_k ?_; intro X hX)
       | (with_reducible refine opsN_k ?_; intro X hX)
       | (with_reducible show awp _ _ _ _ (keepL _ _) _)
       | with_reducible refine awp_cond_k ?_
       | (with_reducible refine Brk_i ?_ ?_ <;> intro hb <;> (try simp only [hb]) <;> have hq := hb <;> try simp only [decide_eq_true_eq, decide_eq_false_iff_not, gt_iff_lt, ge_iff_le, Int.not_lt, Int.not_le, beq_iff_eq, beq_eq_false_iff_ne, Bool.not_eq_true', Bool.not_eq_false', Bool.and_eq_true, Bool.or_eq_true, Bool.and_eq_false_imp, Bool.or_eq_false_iff, ne_eq, Classical.not_not] at hq)
       | with_reducible refine retP_ret_i ?_
       | with_reducible refine retP_normal_i ?_
       | (with_reducible (show bindG _ _ _ _ _); simp only [hall])) <;> try simp only [Go.AM.S1, Go.AM.S2, Go.AM.S3, Go.AM.S4, Go.AM.S5, Go.AM.S6, Go.AM.S7, Go.AM.S8, Go.AM.S9, Nat.reduceAdd, Nat.reduceMul, Nat.reduceSub, ↓reduceIte, Nat.reduceEqDiff, Nat.reduceLT, Nat.reduceLeDiff, reduceCtorEq, Int.reduceBEq, Int.reduceBNe, Nat.reduceBEq, Int.reduceEq, Int.reduceToNat, Int.reduceLE, Int.reduceLT, Nat.reduceDiv, Int.reduceAdd, Int.reduceSub, Int.reduceMul, Int.reduceNeg, Int.reduceGT, Int.reduceGE, Nat.reduceMod, ty_26, ty_27])
    | (with_reducible refine hX _ _ ?_; clear hX X)
    | (with_reducible refine ops_nil_i ?_; try clear hall all)
    | (with_reducible refine opsN_nil_i ?_; try clear hall all)
    | (with_reducible refine hK _ _ ?_; clear hK K)
    | with_reducible refine thenP_normal_i ?_
    | (with_reducible refine zzr3 _ _ ?_; try clear zzr3 Kzzr3)
    | (with_reducible refine zzr2 _ _ ?_; try clear zzr2 Kzzr2)
    | (with_reducible refine zzr1 _ _ ?_; try clear zzr1 Kzzr1)
    | (with_reducible refine zzr0 _ _ ?_; try clear zzr0 Kzzr0)
    | (with_reducible refine awp_seq_l (a := .region 3 _ _) [2] ?_; intro Kzzr3 zzr3)
    | (with_reducible refine awp_seq_l (a := .region 2 _ _) [2, 3] ?_; intro Kzzr2 zzr2)
    | (with_reducible refine awp_seq_l (a := .region 1 _ _) [0, 2, 3] ?_; intro Kzzr1 zzr1)
    | (with_reducible refine awp_seq_l (a := .region 0 _ _) [0, 2] ?_; intro Kzzr0 zzr0)
    | (with_reducible refine awp_seq_k ?_; intro K hK)
    | (with_reducible refine awp_region_a ?_; intro all hall K hK)
    | (with_reducible refine awp_draw_n ?_ ?_; kernel_rfl; intro all hall K hK)
    | (with_reducible refine Chk_i ?_ ?_)
    | (with_reducible refine keysC_i ?_; kernel_rfl)
    | (with_reducible first | refine awp_block_i ?_ | refine awp_skip_i ?_ | refine awp_ret_i ?_ | refine awp_exit_i ?_ | refine thenP_ret_i ?_ | refine thenP_exit_i ?_ | refine lpP_ret_i ?_ | refine lpP_exit_i ?_ | refine unrP_succ_i ?_ | refine unrP_ret_i ?_ | refine unrP_exit_i ?_ | refine blockP_normal_i ?_ | refine blockP_ret_i ?_)
    | (with_reducible refine blockP_exit_i ?_; simp only [↓reduceIte, Nat.reduceEqDiff])
    | with_reducible refine lpP_normal_i ?_)
  all_goals (try clear zzr0; try clear Kzzr0)
  all_goals (try clear zzr1; try clear Kzzr1)
  all_goals (try clear zzr2; try clear Kzzr2)
  all_goals (try clear zzr3; try clear Kzzr3)
theorem sound_93 : Sound Try.prog 93 .body (norm s93) := by
  refine sound_norm (sound_body Try.func93 (show Try.f93.body = some (code Try.f93) from rfl) (by kernel_rfl) tysOk G93_ok (drawOk_ok (by kernel_rfl) tysOk G93_ok) (by kernel_rfl) fun ds p r hs hp => ?_)
  unfold s93 at hs
  split at hs
  · cases hs; exact ⟨Nat.le_of_ble_eq_true (by kernel_rfl), w93 _ hp⟩
  · cases hs
end Go.Proofs.AMT
set_option maxRecDepth 20000
namespace Go.Proofs.AMT
open Go.AM Go.AM.LN
attribute [local congr] bindO_congr bindS_congr bindG_congr awpOps_congr aOne_congr awp_congr aCond_congr awpD_congr dOne_congr keysB_congr nOne_congr thenP_congr blockP_congr Chk_congr Brk_congr
noncomputable def s63 : CSpec := fun ds => match ds with
  | [.v (.int .i64 n)] => some (0 ≤ n ∧ n < 256, .one (.v (.agg #[.int .u64 (w4 (2 ^ n.toNat - 1) 0), .int .u64 (w4 (2 ^ n.toNat - 1) 1), .int .u64 (w4 (2 ^ n.toNat - 1) 2), .int .u64 (w4 (2 ^ n.toNat - 1) 3)])))
  | _ => none
theorem s63_eq (n : Int) : norm s63 [.v (.int .i64 n)] = some (0 ≤ n ∧ n < 256, .one (.v (.agg #[.int .u64 (w4 (2 ^ n.toNat - 1) 0), .int .u64 (w4 (2 ^ n.toNat - 1) 1), .int .u64 (w4 (2 ^ n.toNat - 1) 2), .int .u64 (w4 (2 ^ n.toNat - 1) 3)]))) := rfl
noncomputable def G63 : Gam := [(65, .body, norm s65), (92, .body, norm s92), (93, .body, norm s93)]
theorem G63_ok : GamOk Try.prog G63 := gamOk_cons sound_65 (gamOk_cons sound_92 (gamOk_cons sound_93 gamOk_nil))
theorem k63_65 : lk G63 65 = some (.body, norm s65) := rfl
theorem k63_92 : lk G63 92 = some (.body, norm s92) := rfl
theorem k63_93 : lk G63 93 = some (.body, norm s93) := rfl
set_option maxHeartbeats 20000000 in
theorem w63 (n : Int) (hp : 0 ≤ n ∧ n < 256) : awp ty G63 (code Try.f63) (retP ty Try.f63.results.toList (.one (.v (.agg #[.int .u64 (w4 (2 ^ n.toNat - 1) 0), .int .u64 (w4 (2 ^ n.toNat - 1) 1), .int .u64 (w4 (2 ^ n.toNat - 1) 2), .int .u64 (w4 (2 ^ n.toNat - 1) 3)])))) (entry 0 [.v (.int .i64 n)]) [] := by
  unfold code
  simp only [Try.f63, Option.getD_some]
  obtain ⟨k, rfl⟩ := Int.eq_ofNat_of_zero_le hp.1
  have v1 : V4 1 0 0 0 = 1 := rfl
  have hlt : 2 ^ k < 2 ^ 256 := Nat.pow_lt_pow_right (by omega) (by omega)
  have hM : 2 ^ k % 2 ^ 256 = 2 ^ k := Nat.mod_eq_of_lt hlt
  have hV : V4 (w4 (2 ^ k) 0) (w4 (2 ^ k) 1) (w4 (2 ^ k) 2) (w4 (2 ^ k) 3) = 2 ^ k := V4_w4 hlt
  have g256 : decide ((k : Int) ≥ 256) = false := by simp only [decide_eq_false_iff_not]; omega
  have l0 := w4_lim (2 ^ k) 0
  have l1 := w4_lim (2 ^ k) 1
  have l2 := w4_lim (2 ^ k) 2
  have l3 := w4_lim (2 ^ k) 3
  have hpos := Nat.two_pow_pos k
  all_goals repeat' (first
    | ((first
       | (with_reducible refine ops_k ?_; intro X hX)
       | (with_reducible refine opsN_k ?_; intro X hX)
       | (with_reducible show awp _ _ _ _ (keepL _ _) _)
       | with_reducible refine awp_cond_k ?_
       | (with_reducible refine Brk_i ?_ ?_ <;> intro hb <;> (try simp only [hb]) <;> have hq := hb <;> try simp only [decide_eq_true_eq, decide_eq_false_iff_not, gt_iff_lt, ge_iff_le, Int.not_lt, Int.not_le, beq_iff_eq, beq_eq_false_iff_ne, Bool.not_eq_true', Bool.not_eq_false', Bool.and_eq_true, Bool.or_eq_true, Bool.and_eq_false_imp, Bool.or_eq_false_iff, ne_eq, Classical.not_not] at hq)
       | with_reducible refine retP_ret_i ?_
       | with_reducible refine retP_normal_i ?_
       | (with_reducible (show bindG _ _ _ _ _); simp only [hall])) <;> try simp only [Go.AM.S1, Go.AM.S2, Go.AM.S3, Go.AM.S4, Go.AM.S5, Go.AM.S6, Go.AM.S7, Go.AM.S8, Go.AM.S9, Nat.reduceAdd, Nat.reduceMul, Nat.reduceSub, ↓reduceIte, Nat.reduceEqDiff, Nat.reduceLT, Nat.reduceLeDiff, reduceCtorEq, Int.reduceBEq, Int.reduceBNe, Nat.reduceBEq, Int.reduceEq, Int.reduceToNat, Int.reduceLE, Int.reduceLT, Nat.reduceDiv, Int.reduceAdd, Int.reduceSub, Int.reduceMul, Int.reduceNeg, Int.reduceGT, Int.reduceGE, Nat.reduceMod, k63_65, s65_eq, k63_92, s92_eq, k63_93, s93_eq, ty_3, ty_26, ty_27, ty_28, v1, hV, hM, g256, Nat.one_mul])
    | (with_reducible refine hX _ _ ?_; clear hX X)
    | (with_reducible refine ops_nil_i ?_; try clear hall all)
    | (with_reducible refine opsN_nil_i ?_; try clear hall all)
    | (with_reducible refine hK _ _ ?_; clear hK K)
    | with_reducible refine thenP_normal_i ?_
    | (with_reducible refine zzr4 _ _ ?_; try clear zzr4 Kzzr4)
    | (with_reducible refine zzsr2 _ _ ?_; try clear zzsr2 Kzzsr2)
    | (with_reducible refine zzr2 _ _ ?_; try clear zzr2 Kzzr2)
    | (with_reducible refine zzr1 _ _ ?_; try clear zzr1 Kzzr1)
    | (with_reducible refine zzr0 _ _ ?_; try clear zzr0 Kzzr0)
    | (with_reducible refine awp_seq_l (a := .region 4 _ _) [2] ?_; intro Kzzr4 zzr4)
    | (with_reducible refine awp_seq_l (a := .seq (.region 2 _ _) _) [2, 3] ?_; intro Kzzsr2 zzsr2)
    | (with_reducible refine awp_seq_l (a := .region 2 _ _) [2, 3, 14] ?_; intro Kzzr2 zzr2)
    | (with_reducible refine awp_seq_l (a := .region 1 _ _) [0, 2, 3] ?_; intro Kzzr1 zzr1)
    | (with_reducible refine awp_seq_l (a := .region 0 _ _) [0, 2] ?_; intro Kzzr0 zzr0)
    | (with_reducible refine awp_seq_k ?_; intro K hK)
    | (with_reducible refine awp_region_a ?_; intro all hall K hK)
    | (with_reducible refine awp_draw_n ?_ ?_; kernel_rfl; intro all hall K hK)
    | (with_reducible refine Chk_i ?_ ?_)
    | (with_reducible refine keysC_i ?_; kernel_rfl)
    | (with_reducible first | refine awp_block_i ?_ | refine awp_skip_i ?_ | refine awp_ret_i ?_ | refine awp_exit_i ?_ | refine thenP_ret_i ?_ | refine thenP_exit_i ?_ | refine lpP_ret_i ?_ | refine lpP_exit_i ?_ | refine unrP_succ_i ?_ | refine unrP_ret_i ?_ | refine unrP_exit_i ?_ | refine blockP_normal_i ?_ | refine blockP_ret_i ?_)
    | (with_reducible refine blockP_exit_i ?_; simp only [↓reduceIte, Nat.reduceEqDiff])
    | with_reducible refine lpP_normal_i ?_)
  all_goals (try clear zzr0; try clear Kzzr0)
  all_goals (try clear zzr1; try clear Kzzr1)
  all_goals (try clear zzr2; try clear Kzzr2)
  all_goals (try clear zzsr2; try clear Kzzsr2)
  all_goals (try clear zzr4; try clear Kzzr4)
  all_goals (try simp only [inR])
  all_goals first
    | omega
    | exact ⟨⟨l0, l1, l2, l3⟩, ⟨by omega, by omega, by omega, by omega⟩, hpos⟩
    | skip
theorem sound_63 : Sound Try.prog 63 .body (norm s63) := by
  refine sound_norm (sound_body Try.func63 (show Try.f63.body = some (code Try.f63) from rfl) (by kernel_rfl) tysOk G63_ok (drawOk_ok (by kernel_rfl) tysOk G63_ok) (by kernel_rfl) fun ds p r hs hp => ?_)
  unfold s63 at hs
  split at hs
  · cases hs; exact ⟨Nat.le_of_ble_eq_true (by kernel_rfl), w63 _ hp⟩
  · cases hs
end Go.Proofs.AMT
set_option maxRecDepth 20000
namespace Go.Proofs.AMT
open Go.AM Go.AM.LN
attribute [local congr] bindO_congr bindS_congr bindG_congr awpOps_congr aOne_congr awp_congr aCond_congr awpD_congr dOne_congr keysB_congr nOne_congr thenP_congr blockP_congr Chk_congr Brk_congr
noncomputable def s35 : CSpec := fun ds => match ds with
  | [.v (.agg ⟨[.int .u64 b0, .int .u64 b1, .int .u64 b2, .int .u64 b3]⟩), .v (.int .i64 p), .v (.int .i64 n)] => some (((0 ≤ b0 ∧ b0 < 18446744073709551616) ∧ (0 ≤ b1 ∧ b1 < 18446744073709551616) ∧ (0 ≤ b2 ∧ b2 < 18446744073709551616) ∧ (0 ≤ b3 ∧ b3 < 18446744073709551616)) ∧ (0 ≤ p ∧ p < 4000000000) ∧ 0 ≤ n ∧ n < 256, .one (.v (.agg #[.int .u64 (w4 ((V4 b0 b1 b2 b3) / 2 ^ p.toNat % 2 ^ n.toNat) 0), .int .u64 (w4 ((V4 b0 b1 b2 b3) / 2 ^ p.toNat % 2 ^ n.toNat) 1), .int .u64 (w4 ((V4 b0 b1 b2 b3) / 2 ^ p.toNat % 2 ^ n.toNat) 2), .int .u64 (w4 ((V4 b0 b1 b2 b3) / 2 ^ p.toNat % 2 ^ n.toNat) 3)])))
  | _ => none
theorem s35_eq (b0 b1 b2 b3 : Int) (p : Int) (n : Int) : norm s35 [.v (.agg #[.int .u64 b0, .int .u64 b1, .int .u64 b2, .int .u64 b3]), .v (.int .i64 p), .v (.int .i64 n)] = some (((0 ≤ b0 ∧ b0 < 18446744073709551616) ∧ (0 ≤ b1 ∧ b1 < 18446744073709551616) ∧ (0 ≤ b2 ∧ b2 < 18446744073709551616) ∧ (0 ≤ b3 ∧ b3 < 18446744073709551616)) ∧ (0 ≤ p ∧ p < 4000000000) ∧ 0 ≤ n ∧ n < 256, .one (.v (.agg #[.int .u64 (w4 ((V4 b0 b1 b2 b3) / 2 ^ p.toNat % 2 ^ n.toNat) 0), .int .u64 (w4 ((V4 b0 b1 b2 b3) / 2 ^ p.toNat % 2 ^ n.toNat) 1), .int .u64 (w4 ((V4 b0 b1 b2 b3) / 2 ^ p.toNat % 2 ^ n.toNat) 2), .int .u64 (w4 ((V4 b0 b1 b2 b3) / 2 ^ p.toNat % 2 ^ n.toNat) 3)]))) := rfl
noncomputable def G35 : Gam := [(61, .body, norm s61), (62, .body, norm s62), (63, .body, norm s63)]
theorem G35_ok : GamOk Try.prog G35 := gamOk_cons sound_61 (gamOk_cons sound_62 (gamOk_cons sound_63 gamOk_nil))
theorem k35_61 : lk G35 61 = some (.body, norm s61) := rfl
theorem k35_62 : lk G35 62 = some (.body, norm s62) := rfl
theorem k35_63 : lk G35 63 = some (.body, norm s63) := rfl
set_option maxHeartbeats 20000000 in
theorem w35 (b0 b1 b2 b3 : Int) (p : Int) (n : Int) (hp : ((0 ≤ b0 ∧ b0 < 18446744073709551616) ∧ (0 ≤ b1 ∧ b1 < 18446744073709551616) ∧ (0 ≤ b2 ∧ b2 < 18446744073709551616) ∧ (0 ≤ b3 ∧ b3 < 18446744073709551616)) ∧ (0 ≤ p ∧ p < 4000000000) ∧ 0 ≤ n ∧ n < 256) : awp ty G35 (code Try.f35) (retP ty Try.f35.results.toList (.one (.v (.agg #[.int .u64 (w4 ((V4 b0 b1 b2 b3) / 2 ^ p.toNat % 2 ^ n.toNat) 0), .int .u64 (w4 ((V4 b0 b1 b2 b3) / 2 ^ p.toNat % 2 ^ n.toNat) 1), .int .u64 (w4 ((V4 b0 b1 b2 b3) / 2 ^ p.toNat % 2 ^ n.toNat) 2), .int .u64 (w4 ((V4 b0 b1 b2 b3) / 2 ^ p.toNat % 2 ^ n.toNat) 3)])))) (entry 0 [.v (.agg #[.int .u64 b0, .int .u64 b1, .int .u64 b2, .int .u64 b3]), .v (.int .i64 p), .v (.int .i64 n)]) [] := by
  unfold code
  simp only [Try.f35, Option.getD_some]
  all_goals repeat' (first
    | ((first
       | (with_reducible refine ops_k ?_; intro X hX)
       | (with_reducible refine opsN_k ?_; intro X hX)
       | (with_reducible show awp _ _ _ _ (keepL _ _) _)
       | with_reducible refine awp_cond_k ?_
       | (with_reducible refine Brk_i ?_ ?_ <;> intro hb <;> (try simp only [hb]) <;> have hq := hb <;> try simp only [decide_eq_true_eq, decide_eq_false_iff_not, gt_iff_lt, ge_iff_le, Int.not_lt, Int.not_le, beq_iff_eq, beq_eq_false_iff_ne, Bool.not_eq_true', Bool.not_eq_false', Bool.and_eq_true, Bool.or_eq_true, Bool.and_eq_false_imp, Bool.or_eq_false_iff, ne_eq, Classical.not_not] at hq)
       | with_reducible refine retP_ret_i ?_
       | with_reducible refine retP_normal_i ?_
       | (with_reducible (show bindG _ _ _ _ _); simp only [hall])) <;> try simp only [Go.AM.S1, Go.AM.S2, Go.AM.S3, Go.AM.S4, Go.AM.S5, Go.AM.S6, Go.AM.S7, Go.AM.S8, Go.AM.S9, Nat.reduceAdd, Nat.reduceMul, Nat.reduceSub, ↓reduceIte, Nat.reduceEqDiff, Nat.reduceLT, Nat.reduceLeDiff, reduceCtorEq, Int.reduceBEq, Int.reduceBNe, Nat.reduceBEq, Int.reduceEq, Int.reduceToNat, Int.reduceLE, Int.reduceLT, Nat.reduceDiv, Int.reduceAdd, Int.reduceSub, Int.reduceMul, Int.reduceNeg, Int.reduceGT, Int.reduceGE, Nat.reduceMod, k35_61, s61_eq, k35_62, s62_eq, k35_63, s63_eq, ty_3, ty_26, ty_27, ty_28, and_w4, Nat.and_two_pow_sub_one_eq_mod])
    | (with_reducible refine hX _ _ ?_; clear hX X)
    | (with_reducible refine ops_nil_i ?_; try clear hall all)
    | (with_reducible refine opsN_nil_i ?_; try clear hall all)
    | (with_reducible refine hK _ _ ?_; clear hK K)
    | with_reducible refine thenP_normal_i ?_
    | (with_reducible refine zzr1 _ _ ?_; try clear zzr1 Kzzr1)
    | (with_reducible refine zzr0 _ _ ?_; try clear zzr0 Kzzr0)
    | (with_reducible refine awp_seq_l (a := .region 1 _ _) [6] ?_; intro Kzzr1 zzr1)
    | (with_reducible refine awp_seq_l (a := .region 0 _ _) [1, 2, 3, 6] ?_; intro Kzzr0 zzr0)
    | (with_reducible refine awp_seq_k ?_; intro K hK)
    | (with_reducible refine awp_region_a ?_; intro all hall K hK)
    | (with_reducible refine awp_draw_n ?_ ?_; kernel_rfl; intro all hall K hK)
    | (with_reducible refine Chk_i ?_ ?_)
    | (with_reducible refine keysC_i ?_; kernel_rfl)
    | (with_reducible first | refine awp_block_i ?_ | refine awp_skip_i ?_ | refine awp_ret_i ?_ | refine awp_exit_i ?_ | refine thenP_ret_i ?_ | refine thenP_exit_i ?_ | refine lpP_ret_i ?_ | refine lpP_exit_i ?_ | refine unrP_succ_i ?_ | refine unrP_ret_i ?_ | refine unrP_exit_i ?_ | refine blockP_normal_i ?_ | refine blockP_ret_i ?_)
    | (with_reducible refine blockP_exit_i ?_; simp only [↓reduceIte, Nat.reduceEqDiff])
    | with_reducible refine lpP_normal_i ?_)
  all_goals (try clear zzr0; try clear Kzzr0)
  all_goals (try clear zzr1; try clear Kzzr1)
  all_goals first
    | omega
    | exact ⟨hp.1, hp.2.1⟩
    | skip
theorem sound_35 : Sound Try.prog 35 .body (norm s35) := by
  refine sound_norm (sound_body Try.func35 (show Try.f35.body = some (code Try.f35) from rfl) (by kernel_rfl) tysOk G35_ok (drawOk_ok (by kernel_rfl) tysOk G35_ok) (by kernel_rfl) fun ds p r hs hp => ?_)
  unfold s35 at hs
  split at hs
  · cases hs; exact ⟨Nat.le_of_ble_eq_true (by kernel_rfl), w35 _ _ _ _ _ _ hp⟩
  · cases hs
end Go.Proofs.AMT
set_option maxRecDepth 20000
namespace Go.Proofs.AMT
open Go.AM Go.AM.LN
attribute [local congr] bindO_congr bindS_congr bindG_congr awpOps_congr aOne_congr awp_congr aCond_congr awpD_congr dOne_congr keysB_congr nOne_congr thenP_congr blockP_congr Chk_congr Brk_congr
noncomputable def s36 : CSpec := fun ds => match ds with
  | [.v (.agg ⟨[.int .u64 a0, .int .u64 a1, .int .u64 a2, .int .u64 a3]⟩), .v (.int .i64 n)] => some (((0 ≤ a0 ∧ a0 < 18446744073709551616) ∧ (0 ≤ a1 ∧ a1 < 18446744073709551616) ∧ (0 ≤ a2 ∧ a2 < 18446744073709551616) ∧ (0 ≤ a3 ∧ a3 < 18446744073709551616)) ∧ 0 ≤ n ∧ n < 256, .one (.v (.int .u64 (((V4 a0 a1 a2 a3) / 2 ^ n.toNat % 2 : Nat)))))
  | _ => none
theorem s36_eq (a0 a1 a2 a3 : Int) (n : Int) : norm s36 [.v (.agg #[.int .u64 a0, .int .u64 a1, .int .u64 a2, .int .u64 a3]), .v (.int .i64 n)] = some (((0 ≤ a0 ∧ a0 < 18446744073709551616) ∧ (0 ≤ a1 ∧ a1 < 18446744073709551616) ∧ (0 ≤ a2 ∧ a2 < 18446744073709551616) ∧ (0 ≤ a3 ∧ a3 < 18446744073709551616)) ∧ 0 ≤ n ∧ n < 256, .one (.v (.int .u64 (((V4 a0 a1 a2 a3) / 2 ^ n.toNat % 2 : Nat))))) := rfl
noncomputable def G36 : Gam := []
theorem G36_ok : GamOk Try.prog G36 := gamOk_nil
set_option maxHeartbeats 20000000 in
theorem w36 (a0 a1 a2 a3 : Int) (n : Int) (hp : ((0 ≤ a0 ∧ a0 < 18446744073709551616) ∧ (0 ≤ a1 ∧ a1 < 18446744073709551616) ∧ (0 ≤ a2 ∧ a2 < 18446744073709551616) ∧ (0 ≤ a3 ∧ a3 < 18446744073709551616)) ∧ 0 ≤ n ∧ n < 256) : awp ty G36 (code Try.f36) (retP ty Try.f36.results.toList (.one (.v (.int .u64 (((V4 a0 a1 a2 a3) / 2 ^ n.toNat % 2 : Nat)))))) (entry 0 [.v (.agg #[.int .u64 a0, .int .u64 a1, .int .u64 a2, .int .u64 a3]), .v (.int .i64 n)]) [] := by
  unfold code
  simp only [Try.f36, Option.getD_some]
  obtain ⟨k, rfl⟩ := Int.eq_ofNat_of_zero_le (show 0 ≤ n by omega)
  have hk : k = 64 * (k / 64) + k % 64 := by omega
  generalize hw : k / 64 = w at *
  generalize hs : k % 64 = s at *
  have hd : (k : Int).tdiv 64 = (w : Int) := by rw [Int.tdiv_eq_ediv_of_nonneg (by omega)]; omega
  have hm : (k : Int).tmod 64 = (s : Int) := by rw [Int.tmod_eq_emod_of_nonneg (by omega)]; omega
  have hmm : (s : Int) % 18446744073709551616 = (s : Int) := by omega
  have m1 : min s 64 = s := by omega
  have m2 : (64 - (s : Int)).toNat = 64 - s := by omega
  have m4 : (64 - (s : Int)) % 18446744073709551616 = 64 - (s : Int) := by omega
  have m3 : min (64 - s) 64 = 64 - s := by omega
  obtain ⟨ha0, ha1, ha2, ha3⟩ := hp.1
  have g1 : decide ((k : Int) < 0) = false := by simp
  have g2 : decide ((k : Int) ≥ 256) = false := by simp only [decide_eq_false_iff_not]; omega
  have hw4 : w = 0 ∨ w = 1 ∨ w = 2 ∨ w = 3 := by omega
  rcases hw4 with h | h | h | h
  all_goals subst h
  all_goals first
    | replace hd : (k : Int).tdiv 64 = 0 := hd
    | replace hd : (k : Int).tdiv 64 = 1 := hd
    | replace hd : (k : Int).tdiv 64 = 2 := hd
    | replace hd : (k : Int).tdiv 64 = 3 := hd
  all_goals repeat' (first
    | ((first
       | (with_reducible refine ops_k ?_; intro X hX)
       | (with_reducible refine opsN_k ?_; intro X hX)
       | (with_reducible show awp _ _ _ _ (keepL _ _) _)
       | with_reducible refine awp_cond_k ?_
       | (with_reducible refine Brk_i ?_ ?_ <;> intro hb <;> (try simp only [hb]) <;> have hq := hb <;> try simp only [decide_eq_true_eq, decide_eq_false_iff_not, gt_iff_lt, ge_iff_le, Int.not_lt, Int.not_le, beq_iff_eq, beq_eq_false_iff_ne, Bool.not_eq_true', Bool.not_eq_false', Bool.and_eq_true, Bool.or_eq_true, Bool.and_eq_false_imp, Bool.or_eq_false_iff, ne_eq, Classical.not_not] at hq)
       | with_reducible refine retP_ret_i ?_
       | with_reducible refine retP_normal_i ?_
       | (with_reducible (show bindG _ _ _ _ _); simp only [hall])) <;> try simp only [Go.AM.S1, Go.AM.S2, Go.AM.S3, Go.AM.S4, Go.AM.S5, Go.AM.S6, Go.AM.S7, Go.AM.S8, Go.AM.S9, Nat.reduceAdd, Nat.reduceMul, Nat.reduceSub, ↓reduceIte, Nat.reduceEqDiff, Nat.reduceLT, Nat.reduceLeDiff, reduceCtorEq, Int.reduceBEq, Int.reduceBNe, Nat.reduceBEq, Int.reduceEq, Int.reduceToNat, Int.reduceLE, Int.reduceLT, Nat.reduceDiv, Int.reduceAdd, Int.reduceSub, Int.reduceMul, Int.reduceNeg, Int.reduceGT, Int.reduceGE, Nat.reduceMod, ty_3, ty_26, ty_27, hd, hm, m1, IntKind.bits, g1, g2])
    | (with_reducible refine hX _ _ ?_; clear hX X)
    | (with_reducible refine ops_nil_i ?_; try clear hall all)
    | (with_reducible refine opsN_nil_i ?_; try clear hall all)
    | (with_reducible refine hK _ _ ?_; clear hK K)
    | with_reducible refine thenP_normal_i ?_
    | (with_reducible refine zzr3 _ _ ?_; try clear zzr3 Kzzr3)
    | (with_reducible refine zzsr1 _ _ ?_; try clear zzsr1 Kzzsr1)
    | (with_reducible refine zzr2 _ _ ?_; try clear zzr2 Kzzr2)
    | (with_reducible refine zzr1 _ _ ?_; try clear zzr1 Kzzr1)
    | (with_reducible refine zzr0 _ _ ?_; try clear zzr0 Kzzr0)
    | (with_reducible refine awp_seq_l (a := .region 3 _ _) [4] ?_; intro Kzzr3 zzr3)
    | (with_reducible refine awp_seq_l (a := .seq (.region 1 _ _) _) [1, 2] ?_; intro Kzzsr1 zzsr1)
    | (with_reducible refine awp_seq_l (a := .region 2 _ _) [4] ?_; intro Kzzr2 zzr2)
    | (with_reducible refine awp_seq_l (a := .region 1 _ _) [1, 2, 13] ?_; intro Kzzr1 zzr1)
    | (with_reducible refine awp_seq_l (a := .region 0 _ _) [1, 2] ?_; intro Kzzr0 zzr0)
    | (with_reducible refine awp_seq_k ?_; intro K hK)
    | (with_reducible refine awp_region_a ?_; intro all hall K hK)
    | (with_reducible refine awp_draw_n ?_ ?_; kernel_rfl; intro all hall K hK)
    | (with_reducible refine Chk_i ?_ ?_)
    | (with_reducible refine keysC_i ?_; kernel_rfl)
    | (with_reducible first | refine awp_block_i ?_ | refine awp_skip_i ?_ | refine awp_ret_i ?_ | refine awp_exit_i ?_ | refine thenP_ret_i ?_ | refine thenP_exit_i ?_ | refine lpP_ret_i ?_ | refine lpP_exit_i ?_ | refine unrP_succ_i ?_ | refine unrP_ret_i ?_ | refine unrP_exit_i ?_ | refine blockP_normal_i ?_ | refine blockP_ret_i ?_)
    | (with_reducible refine blockP_exit_i ?_; simp only [↓reduceIte, Nat.reduceEqDiff])
    | with_reducible refine lpP_normal_i ?_)
  all_goals (try clear zzr0; try clear Kzzr0)
  all_goals (try clear zzr1; try clear Kzzr1)
  all_goals (try clear zzr2; try clear Kzzr2)
  all_goals (try clear zzsr1; try clear Kzzsr1)
  all_goals (try clear zzr3; try clear Kzzr3)
  all_goals (try simp only [inR])
  all_goals first
    | omega
    | skip
  all_goals rw [hk]
  all_goals have hb4 := bit4 ha0 ha1 ha2 ha3 (show s < 64 by omega)
  · rw [hb4.1]
  · rw [hb4.2.1]
  · rw [hb4.2.2.1]
  · rw [hb4.2.2.2]
theorem sound_36 : Sound Try.prog 36 .body (norm s36) := by
  refine sound_norm (sound_body Try.func36 (show Try.f36.body = some (code Try.f36) from rfl) (by kernel_rfl) tysOk G36_ok (drawOk_ok (by kernel_rfl) tysOk G36_ok) (by kernel_rfl) fun ds p r hs hp => ?_)
  unfold s36 at hs
  split at hs
  · cases hs; exact ⟨Nat.le_of_ble_eq_true (by kernel_rfl), w36 _ _ _ _ _ hp⟩
  · cases hs
end Go.Proofs.AMT
set_option maxRecDepth 20000
namespace Go.Proofs.AMT
open Go.AM Go.AM.LN
attribute [local congr] bindO_congr bindS_congr bindG_congr awpOps_congr aOne_congr awp_congr aCond_congr awpD_congr dOne_congr keysB_congr nOne_congr thenP_congr blockP_congr Chk_congr Brk_congr
noncomputable def s64 : CSpec := fun ds => match ds with
  | [.v (.agg ⟨[.int .u64 a0, .int .u64 a1, .int .u64 a2, .int .u64 a3]⟩), .v (.agg ⟨[.int .u64 b0, .int .u64 b1, .int .u64 b2, .int .u64 b3]⟩)] => some (True, .one (.v (.agg #[.int .u64 (AM.bits .or .u64 a0 b0), .int .u64 (AM.bits .or .u64 a1 b1), .int .u64 (AM.bits .or .u64 a2 b2), .int .u64 (AM.bits .or .u64 a3 b3)])))
  | _ => none
theorem s64_eq (a0 a1 a2 a3 : Int) (b0 b1 b2 b3 : Int) : norm s64 [.v (.agg #[.int .u64 a0, .int .u64 a1, .int .u64 a2, .int .u64 a3]), .v (.agg #[.int .u64 b0, .int .u64 b1, .int .u64 b2, .int .u64 b3])] = some (True, .one (.v (.agg #[.int .u64 (AM.bits .or .u64 a0 b0), .int .u64 (AM.bits .or .u64 a1 b1), .int .u64 (AM.bits .or .u64 a2 b2), .int .u64 (AM.bits .or .u64 a3 b3)]))) := rfl
noncomputable def G64 : Gam := []
theorem G64_ok : GamOk Try.prog G64 := gamOk_nil
set_option maxHeartbeats 20000000 in
theorem w64 (a0 a1 a2 a3 : Int) (b0 b1 b2 b3 : Int) (hp : True) : awp ty G64 (code Try.f64) (retP ty Try.f64.results.toList (.one (.v (.agg #[.int .u64 (AM.bits .or .u64 a0 b0), .int .u64 (AM.bits .or .u64 a1 b1), .int .u64 (AM.bits .or .u64 a2 b2), .int .u64 (AM.bits .or .u64 a3 b3)])))) (entry 0 [.v (.agg #[.int .u64 a0, .int .u64 a1, .int .u64 a2, .int .u64 a3]), .v (.agg #[.int .u64 b0, .int .u64 b1, .int .u64 b2, .int .u64 b3])]) [] := by
  unfold code
  simp only [Try.f64, Option.getD_some]
  all_goals repeat' (first
    | ((first
       | (with_reducible refine ops_k ?_; intro X hX)
       | (with_reducible refine opsN_k ?_; intro X hX)
       | (with_reducible show awp _ _ _ _ (keepL _ _) _)
       | (with_reducible refine hX _ _ _ _ ?_; clear hX X)
       | (with_reducible refine opsD_k ?_; intro X hX)
       | with_reducible refine awp_cond_k ?_
       | (with_reducible refine Brk_i ?_ ?_ <;> intro hb <;> (try simp only [hb]) <;> have hq := hb <;> try simp only [decide_eq_true_eq, decide_eq_false_iff_not, gt_iff_lt, ge_iff_le, Int.not_lt, Int.not_le, beq_iff_eq, beq_eq_false_iff_ne, Bool.not_eq_true', Bool.not_eq_false', Bool.and_eq_true, Bool.or_eq_true, Bool.and_eq_false_imp, Bool.or_eq_false_iff, ne_eq, Classical.not_not] at hq)
       | with_reducible refine retP_ret_i ?_
       | with_reducible refine retP_normal_i ?_
       | (with_reducible (show bindG _ _ _ _ _); simp only [hall])) <;> try simp only [Go.AM.S1, Go.AM.S2, Go.AM.S3, Go.AM.S4, Go.AM.S5, Go.AM.S6, Go.AM.S7, Go.AM.S8, Go.AM.S9, Nat.reduceAdd, Nat.reduceMul, Nat.reduceSub, ↓reduceIte, Nat.reduceEqDiff, Nat.reduceLT, Nat.reduceLeDiff, reduceCtorEq, Int.reduceBEq, Int.reduceBNe, Nat.reduceBEq, Int.reduceEq, Int.reduceToNat, Int.reduceLE, Int.reduceLT, Nat.reduceDiv, Int.reduceAdd, Int.reduceSub, Int.reduceMul, Int.reduceNeg, Int.reduceGT, Int.reduceGE, Nat.reduceMod, ty_3, ty_26, ty_28])
    | (with_reducible refine hX _ _ ?_; clear hX X)
    | (with_reducible refine opsD_nil_i ?_; try clear hall all)
    | (with_reducible refine keysB_i ?_; kernel_rfl)
    | ((with_reducible show clashK _ _ _ = true); kernel_rfl)
    | (with_reducible refine ops_nil_i ?_; try clear hall all)
    | (with_reducible refine opsN_nil_i ?_; try clear hall all)
    | (with_reducible refine hK _ _ ?_; clear hK K)
    | with_reducible refine thenP_normal_i ?_
    | (with_reducible refine zzr6 _ _ ?_; try clear zzr6 Kzzr6)
    | (with_reducible refine zzsr1 _ _ ?_; try clear zzsr1 Kzzsr1)
    | (with_reducible refine zzb1 _ _ ?_; try clear zzb1 Kzzb1)
    | (with_reducible refine zzr3 _ _ ?_; try clear zzr3 Kzzr3)
    | (with_reducible refine zzctmp7 _ _ ?_; try clear zzctmp7 Kzzctmp7)
    | (with_reducible refine zzr2 _ _ ?_; try clear zzr2 Kzzr2)
    | (with_reducible refine zzr1 _ _ ?_; try clear zzr1 Kzzr1)
    | (with_reducible refine zzr0 _ _ ?_; try clear zzr0 Kzzr0)
    | (with_reducible refine awp_unroll (Nat.succ (Nat.succ (Nat.succ (Nat.succ (Nat.succ Nat.zero))))) ?_)
    | (with_reducible refine awp_seq_l (a := .region 6 _ _) [4] ?_; intro Kzzr6 zzr6)
    | (with_reducible refine awp_seq_l (a := .seq (.region 1 _ _) _) [2, 4] ?_; intro Kzzsr1 zzsr1)
    | (with_reducible refine awp_seq_l (a := .block 1 _) [2, 3, 4, 6] ?_; intro Kzzb1 zzb1)
    | (with_reducible refine awp_seq_l (a := .region 3 _ _) [2, 3, 4, 5, 6] ?_; intro Kzzr3 zzr3)
    | (with_reducible refine awp_seq_l (a := .cond (.tmp 7) _ _) [2, 3, 4, 6] ?_; intro Kzzctmp7 zzctmp7)
    | (with_reducible refine awp_seq_l (a := .region 2 _ _) [2, 3, 4, 6, 7] ?_; intro Kzzr2 zzr2)
    | (with_reducible refine awp_seq_l (a := .region 1 _ _) [2, 3, 4, 6] ?_; intro Kzzr1 zzr1)
    | (with_reducible refine awp_seq_l (a := .region 0 _ _) [2, 3, 4] ?_; intro Kzzr0 zzr0)
    | (with_reducible refine awp_seq_k ?_; intro K hK)
    | (with_reducible refine awp_region_a ?_; intro all hall K hK)
    | (with_reducible refine awp_draw_a (id := 4) ?_ ?_; kernel_rfl; intro all hall K hK)
    | (with_reducible refine awp_draw_n ?_ ?_; kernel_rfl; intro all hall K hK)
    | (with_reducible refine Chk_i ?_ ?_)
    | (with_reducible refine keysC_i ?_; kernel_rfl)
    | (with_reducible first | refine awp_block_i ?_ | refine awp_skip_i ?_ | refine awp_ret_i ?_ | refine awp_exit_i ?_ | refine thenP_ret_i ?_ | refine thenP_exit_i ?_ | refine lpP_ret_i ?_ | refine lpP_exit_i ?_ | refine unrP_succ_i ?_ | refine unrP_ret_i ?_ | refine unrP_exit_i ?_ | refine blockP_normal_i ?_ | refine blockP_ret_i ?_)
    | (with_reducible refine blockP_exit_i ?_; simp only [↓reduceIte, Nat.reduceEqDiff])
    | with_reducible refine lpP_normal_i ?_)
  all_goals (try clear zzr0; try clear Kzzr0)
  all_goals (try clear zzr1; try clear Kzzr1)
  all_goals (try clear zzr2; try clear Kzzr2)
  all_goals (try clear zzctmp7; try clear Kzzctmp7)
  all_goals (try clear zzr3; try clear Kzzr3)
  all_goals (try clear zzb1; try clear Kzzb1)
  all_goals (try clear zzsr1; try clear Kzzsr1)
  all_goals (try clear zzr6; try clear Kzzr6)
  all_goals (simp only [inR]; omega)
theorem sound_64 : Sound Try.prog 64 .body (norm s64) := by
  refine sound_norm (sound_body Try.func64 (show Try.f64.body = some (code Try.f64) from rfl) (by kernel_rfl) tysOk G64_ok (drawOk_ok (by kernel_rfl) tysOk G64_ok) (by kernel_rfl) fun ds p r hs hp => ?_)
  unfold s64 at hs
  split at hs
  · cases hs; exact ⟨Nat.le_of_ble_eq_true (by kernel_rfl), w64 _ _ _ _ _ _ _ _ hp⟩
  · cases hs
end Go.Proofs.AMT
set_option maxRecDepth 20000
namespace Go.Proofs.AMT
open Go.AM Go.AM.LN
attribute [local congr] bindO_congr bindS_congr bindG_congr awpOps_congr aOne_congr awp_congr aCond_congr awpD_congr dOne_congr keysB_congr nOne_congr thenP_congr blockP_congr Chk_congr Brk_congr
noncomputable def s37 : CSpec := fun ds => match ds with
  | [.v (.agg ⟨[.int .u64 b0, .int .u64 b1, .int .u64 b2, .int .u64 b3]⟩), .v (.agg ⟨[.int .u64 x0, .int .u64 x1, .int .u64 x2, .int .u64 x3]⟩), .v (.int .i64 p)] => some (((0 ≤ b0 ∧ b0 < 18446744073709551616) ∧ (0 ≤ b1 ∧ b1 < 18446744073709551616) ∧ (0 ≤ b2 ∧ b2 < 18446744073709551616) ∧ (0 ≤ b3 ∧ b3 < 18446744073709551616)) ∧ ((0 ≤ x0 ∧ x0 < 18446744073709551616) ∧ (0 ≤ x1 ∧ x1 < 18446744073709551616) ∧ (0 ≤ x2 ∧ x2 < 18446744073709551616) ∧ (0 ≤ x3 ∧ x3 < 18446744073709551616)) ∧ 0 ≤ p ∧ p < 4000000000, .one (.v (.agg #[.int .u64 (w4 ((V4 b0 b1 b2 b3) ||| ((V4 x0 x1 x2 x3) * 2 ^ p.toNat % 2 ^ 256)) 0), .int .u64 (w4 ((V4 b0 b1 b2 b3) ||| ((V4 x0 x1 x2 x3) * 2 ^ p.toNat % 2 ^ 256)) 1), .int .u64 (w4 ((V4 b0 b1 b2 b3) ||| ((V4 x0 x1 x2 x3) * 2 ^ p.toNat % 2 ^ 256)) 2), .int .u64 (w4 ((V4 b0 b1 b2 b3) ||| ((V4 x0 x1 x2 x3) * 2 ^ p.toNat % 2 ^ 256)) 3)])))
  | _ => none
theorem s37_eq (b0 b1 b2 b3 : Int) (x0 x1 x2 x3 : Int) (p : Int) : norm s37 [.v (.agg #[.int .u64 b0, .int .u64 b1, .int .u64 b2, .int .u64 b3]), .v (.agg #[.int .u64 x0, .int .u64 x1, .int .u64 x2, .int .u64 x3]), .v (.int .i64 p)] = some (((0 ≤ b0 ∧ b0 < 18446744073709551616) ∧ (0 ≤ b1 ∧ b1 < 18446744073709551616) ∧ (0 ≤ b2 ∧ b2 < 18446744073709551616) ∧ (0 ≤ b3 ∧ b3 < 18446744073709551616)) ∧ ((0 ≤ x0 ∧ x0 < 18446744073709551616) ∧ (0 ≤ x1 ∧ x1 < 18446744073709551616) ∧ (0 ≤ x2 ∧ x2 < 18446744073709551616) ∧ (0 ≤ x3 ∧ x3 < 18446744073709551616)) ∧ 0 ≤ p ∧ p < 4000000000, .one (.v (.agg #[.int .u64 (w4 ((V4 b0 b1 b2 b3) ||| ((V4 x0 x1 x2 x3) * 2 ^ p.toNat % 2 ^ 256)) 0), .int .u64 (w4 ((V4 b0 b1 b2 b3) ||| ((V4 x0 x1 x2 x3) * 2 ^ p.toNat % 2 ^ 256)) 1), .int .u64 (w4 ((V4 b0 b1 b2 b3) ||| ((V4 x0 x1 x2 x3) * 2 ^ p.toNat % 2 ^ 256)) 2), .int .u64 (w4 ((V4 b0 b1 b2 b3) ||| ((V4 x0 x1 x2 x3) * 2 ^ p.toNat % 2 ^ 256)) 3)]))) := rfl
noncomputable def G37 : Gam := [(64, .body, norm s64), (65, .body, norm s65)]
theorem G37_ok : GamOk Try.prog G37 := gamOk_cons sound_64 (gamOk_cons sound_65 gamOk_nil)
theorem k37_64 : lk G37 64 = some (.body, norm s64) := rfl
theorem k37_65 : lk G37 65 = some (.body, norm s65) := rfl
set_option maxHeartbeats 20000000 in
theorem w37 (b0 b1 b2 b3 : Int) (x0 x1 x2 x3 : Int) (p : Int) (hp : ((0 ≤ b0 ∧ b0 < 18446744073709551616) ∧ (0 ≤ b1 ∧ b1 < 18446744073709551616) ∧ (0 ≤ b2 ∧ b2 < 18446744073709551616) ∧ (0 ≤ b3 ∧ b3 < 18446744073709551616)) ∧ ((0 ≤ x0 ∧ x0 < 18446744073709551616) ∧ (0 ≤ x1 ∧ x1 < 18446744073709551616) ∧ (0 ≤ x2 ∧ x2 < 18446744073709551616) ∧ (0 ≤ x3 ∧ x3 < 18446744073709551616)) ∧ 0 ≤ p ∧ p < 4000000000) : awp ty G37 (code Try.f37) (retP ty Try.f37.results.toList (.one (.v (.agg #[.int .u64 (w4 ((V4 b0 b1 b2 b3) ||| ((V4 x0 x1 x2 x3) * 2 ^ p.toNat % 2 ^ 256)) 0), .int .u64 (w4 ((V4 b0 b1 b2 b3) ||| ((V4 x0 x1 x2 x3) * 2 ^ p.toNat % 2 ^ 256)) 1), .int .u64 (w4 ((V4 b0 b1 b2 b3) ||| ((V4 x0 x1 x2 x3) * 2 ^ p.toNat % 2 ^ 256)) 2), .int .u64 (w4 ((V4 b0 b1 b2 b3) ||| ((V4 x0 x1 x2 x3) * 2 ^ p.toNat % 2 ^ 256)) 3)])))) (entry 0 [.v (.agg #[.int .u64 b0, .int .u64 b1, .int .u64 b2, .int .u64 b3]), .v (.agg #[.int .u64 x0, .int .u64 x1, .int .u64 x2, .int .u64 x3]), .v (.int .i64 p)]) [] := by
  unfold code
  simp only [Try.f37, Option.getD_some]
  all_goals repeat' (first
    | ((first
       | (with_reducible refine ops_k ?_; intro X hX)
       | (with_reducible refine opsN_k ?_; intro X hX)
       | (with_reducible show awp _ _ _ _ (keepL _ _) _)
       | (with_reducible refine hX _ _ _ _ ?_; clear hX X)
       | (with_reducible refine opsD_k ?_; intro X hX)
       | with_reducible refine awp_cond_k ?_
       | (with_reducible refine Brk_i ?_ ?_ <;> intro hb <;> (try simp only [hb]) <;> have hq := hb <;> try simp only [decide_eq_true_eq, decide_eq_false_iff_not, gt_iff_lt, ge_iff_le, Int.not_lt, Int.not_le, beq_iff_eq, beq_eq_false_iff_ne, Bool.not_eq_true', Bool.not_eq_false', Bool.and_eq_true, Bool.or_eq_true, Bool.and_eq_false_imp, Bool.or_eq_false_iff, ne_eq, Classical.not_not] at hq)
       | with_reducible refine retP_ret_i ?_
       | with_reducible refine retP_normal_i ?_
       | (with_reducible (show bindG _ _ _ _ _); simp only [hall])) <;> try simp only [Go.AM.S1, Go.AM.S2, Go.AM.S3, Go.AM.S4, Go.AM.S5, Go.AM.S6, Go.AM.S7, Go.AM.S8, Go.AM.S9, Nat.reduceAdd, Nat.reduceMul, Nat.reduceSub, ↓reduceIte, Nat.reduceEqDiff, Nat.reduceLT, Nat.reduceLeDiff, reduceCtorEq, Int.reduceBEq, Int.reduceBNe, Nat.reduceBEq, Int.reduceEq, Int.reduceToNat, Int.reduceLE, Int.reduceLT, Nat.reduceDiv, Int.reduceAdd, Int.reduceSub, Int.reduceMul, Int.reduceNeg, Int.reduceGT, Int.reduceGE, Nat.reduceMod, k37_64, s64_eq, k37_65, s65_eq, ty_3, ty_26, ty_27, ty_28])
    | (with_reducible refine hX _ _ ?_; clear hX X)
    | (with_reducible refine opsD_nil_i ?_; try clear hall all)
    | (with_reducible refine keysB_i ?_; kernel_rfl)
    | ((with_reducible show clashK _ _ _ = true); kernel_rfl)
    | (with_reducible refine ops_nil_i ?_; try clear hall all)
    | (with_reducible refine opsN_nil_i ?_; try clear hall all)
    | (with_reducible refine hK _ _ ?_; clear hK K)
    | with_reducible refine thenP_normal_i ?_
    | (with_reducible refine zzr1 _ _ ?_; try clear zzr1 Kzzr1)
    | (with_reducible refine zzr0 _ _ ?_; try clear zzr0 Kzzr0)
    | (with_reducible refine awp_seq_l (a := .region 1 _ _) [6] ?_; intro Kzzr1 zzr1)
    | (with_reducible refine awp_seq_l (a := .region 0 _ _) [2, 3, 4, 6] ?_; intro Kzzr0 zzr0)
    | (with_reducible refine awp_seq_k ?_; intro K hK)
    | (with_reducible refine awp_region_a ?_; intro all hall K hK)
    | (with_reducible refine awp_draw_a (id := 1) ?_ ?_; kernel_rfl; intro all hall K hK)
    | (with_reducible refine awp_draw_n ?_ ?_; kernel_rfl; intro all hall K hK)
    | (with_reducible refine Chk_i ?_ ?_)
    | (with_reducible refine keysC_i ?_; kernel_rfl)
    | (with_reducible first | refine awp_block_i ?_ | refine awp_skip_i ?_ | refine awp_ret_i ?_ | refine awp_exit_i ?_ | refine thenP_ret_i ?_ | refine thenP_exit_i ?_ | refine lpP_ret_i ?_ | refine lpP_exit_i ?_ | refine unrP_succ_i ?_ | refine unrP_ret_i ?_ | refine unrP_exit_i ?_ | refine blockP_normal_i ?_ | refine blockP_ret_i ?_)
    | (with_reducible refine blockP_exit_i ?_; simp only [↓reduceIte, Nat.reduceEqDiff])
    | with_reducible refine lpP_normal_i ?_)
  all_goals (try clear zzr0; try clear Kzzr0)
  all_goals (try clear zzr1; try clear Kzzr1)
  all_goals first
    | omega
    | exact ⟨hp.2.1, hp.2.2⟩
    | skip
  all_goals (obtain ⟨f0, f1, f2, f3⟩ := w4_V4 hp.1.1 hp.1.2.1 hp.1.2.2.1 hp.1.2.2.2)
  all_goals (refine agg4 ⟨?_, ?_, ?_, ?_⟩)
  · rw [← or_w4, f0]
  · rw [← or_w4, f1]
  · rw [← or_w4, f2]
  · rw [← or_w4, f3]
theorem sound_37 : Sound Try.prog 37 .body (norm s37) := by
  refine sound_norm (sound_body Try.func37 (show Try.f37.body = some (code Try.f37) from rfl) (by kernel_rfl) tysOk G37_ok (drawOk_ok (by kernel_rfl) tysOk G37_ok) (by kernel_rfl) fun ds p r hs hp => ?_)
  unfold s37 at hs
  split at hs
  · cases hs; exact ⟨Nat.le_of_ble_eq_true (by kernel_rfl), w37 _ _ _ _ _ _ _ _ _ hp⟩
  · cases hs
end Go.Proofs.AMT
