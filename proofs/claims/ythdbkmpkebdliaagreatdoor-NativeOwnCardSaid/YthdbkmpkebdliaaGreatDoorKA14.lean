/- Part of the proof: own text. -/
import Derived.Lib.Walk
import Derived.Lib.ConvBytes
import Derived.Laws.IdiomStrings
import Derived.BigCall
import Derived.BigGuard
import Derived.Test.YthdbkmpkebdliaaGreatDoorKA13
set_option linter.all false
set_option maxHeartbeats 20000000
set_option maxRecDepth 20000
namespace Go.AM.LN
open Go Go.Lib
theorem gNum_len {s : Bool} {m : List UInt8} : (gNum s m).d.length ≤ m.length := by
  have h1 := gOff_len m
  have h2 := gPart_len (gOff m)
  have h3 := bare_len (gDig m ++ gPart (gOff m))
  rw [List.length_append] at h3
  unfold gNum
  split
  · simp [gBad]
  · split
    · dsimp only; omega
    · split
      · dsimp only; omega
      · simp [gBad]
theorem gIn_len (r : List UInt8) : (gIn r).length ≤ r.length := by
  unfold gIn; rw [List.length_take]; omega
theorem gWord_len {m : List UInt8} {c : Int} {q : Bool} {d : List UInt8} (h : gWord m = some (c, q, d)) : d.length ≤ m.length := by
  unfold gWord at h
  split at h
  · cases h; simp
  · split at h
    · cases h
    · dsimp only at h
      have hl : (if hasPrefix m wNan = true then m.drop 3 else m.drop 4).length ≤ m.length := by split <;> (rw [List.length_drop]; omega)
      generalize (if hasPrefix m wNan = true then m.drop 3 else m.drop 4) = r at *
      by_cases h0 : r = []
      · rw [if_pos h0] at h; cases h; simp
      · rw [if_neg h0] at h
        by_cases hp : gPar r = true
        · rw [if_pos hp] at h
          cases h
          have := gIn_len r
          have := bare_len (gIn r)
          omega
        · rw [if_neg hp] at h; cases h
theorem gCut_b {l : List UInt8} (h : (gCut l).e = 0) : (gCut l).d.length ≤ 4000 ∧ -1000000000 ≤ (gCut l).x ∧ (gCut l).x ≤ 1000000000 := by
  obtain ⟨h1, h2⟩ := gCut_ok h
  refine ⟨?_, ?_⟩
  · unfold gCut
    rw [if_neg (by omega)]
    have hs := sgnR_len l
    cases hw : gWord ((sgnR l).map lowB) with
    | none =>
      have := gNum_len (s := sgnN l) (m := sgnR l)
      dsimp only; omega
    | some v =>
      obtain ⟨c, q, d⟩ := v
      have := gWord_len hw
      rw [List.length_map] at this
      dsimp only; omega
  · rcases h2 with ⟨_, _, _, h3, h4⟩ | ⟨_, _, _, h3⟩ | ⟨_, _, h3⟩ <;> omega
def rdE (n r : Int) (l : List UInt8) : Int := if okR n r then (if (gCut l).e = 0 then mkE n r (gCut l).c (gCut l).s (gCut l).q (gCut l).d (gCut l).x else (gCut l).e) else 1
def rdV (n r : Int) (l : List UInt8) : Nat := if (gCut l).e = 0 then mkV n r (gCut l).c (gCut l).s (gCut l).q (gCut l).d (gCut l).x else 0
def rdF (n r : Int) (l : List UInt8) : Int := if (gCut l).e = 0 then mkF n r (gCut l).c (gCut l).s (gCut l).q (gCut l).d (gCut l).x else 0
theorem rd_no {n r : Int} {l : List UInt8} (h : okR n r = false) : rdE n r l = 1 ∧ rdV n r l = 0 ∧ rdF n r l = 0 := by
  refine ⟨by unfold rdE; rw [h]; rfl, ?_, ?_⟩
  · unfold rdV; split
    · exact (mk_no h).2.1
    · rfl
  · unfold rdF; split
    · exact (mk_no h).2.2
    · rfl
theorem rd_bad {n r : Int} {l : List UInt8} (h : okR n r = true) (he : ¬ (gCut l).e = 0) : rdE n r l = (gCut l).e ∧ rdV n r l = 0 ∧ rdF n r l = 0 := by
  unfold rdE rdV rdF
  rw [h, if_neg he, if_neg he, if_neg he]
  exact ⟨rfl, rfl, rfl⟩
theorem rd_ok {n r : Int} {l : List UInt8} (h : okR n r = true) (he : (gCut l).e = 0) : rdE n r l = mkE n r (gCut l).c (gCut l).s (gCut l).q (gCut l).d (gCut l).x ∧ rdV n r l = mkV n r (gCut l).c (gCut l).s (gCut l).q (gCut l).d (gCut l).x ∧ rdF n r l = mkF n r (gCut l).c (gCut l).s (gCut l).q (gCut l).d (gCut l).x := by
  unfold rdE rdV rdF
  rw [h, if_pos he, if_pos he, if_pos he]
  exact ⟨rfl, rfl, rfl⟩
end Go.AM.LN
set_option maxRecDepth 20000
namespace Go.Proofs.AMT
open Go.AM Go.AM.LN
attribute [local congr] bindO_congr bindS_congr bindG_congr awpOps_congr aOne_congr awp_congr aCond_congr awpD_congr dOne_congr keysB_congr nOne_congr thenP_congr blockP_congr Chk_congr Brk_congr
noncomputable def s32 : Cs := fun ds => match ds with
  | [.v (.int .i64 n), .v (.int .i64 r), .v (.string s)] => some (s.size ≤ 20000, .many [.v (.agg #[.int .u64 (w4 (rdV n r s.data.toList) 0), .int .u64 (w4 (rdV n r s.data.toList) 1), .int .u64 (w4 (rdV n r s.data.toList) 2), .int .u64 (w4 (rdV n r s.data.toList) 3)]), .v (.int .i64 (rdF n r s.data.toList)), .v (.int .i64 (rdE n r s.data.toList))])
  | _ => none
theorem s32_eq (n : Int) (r : Int) (s : ByteArray) : norm s32 [.v (.int .i64 n), .v (.int .i64 r), .v (.string s)] = s32 [.v (.int .i64 n), .v (.int .i64 r), .v (.string s)] := rfl
noncomputable def G32 : Gam := [(34, .body, norm s34), (91, .body, norm s91), (92, .body, norm s92), (93, .body, norm s93)]
theorem G32_ok : Gk Tryz.prog G32 := Gc sound_34 (Gc sound_91 (Gc sound_92 (Gc sound_93 Gn)))
theorem k32_34 : lk G32 34 = some (.body, norm s34) := rfl
theorem k32_91 : lk G32 91 = some (.body, norm s91) := rfl
theorem k32_92 : lk G32 92 = some (.body, norm s92) := rfl
theorem k32_93 : lk G32 93 = some (.body, norm s93) := rfl
theorem wk32 (n : Int) (r : Int) (s : ByteArray) (hp : s.size ≤ 20000) : awp ty G32 (code Tryz.f32) (retP ty Tryz.f32.results.toList (.many [.v (.agg #[.int .u64 (w4 (rdV n r s.data.toList) 0), .int .u64 (w4 (rdV n r s.data.toList) 1), .int .u64 (w4 (rdV n r s.data.toList) 2), .int .u64 (w4 (rdV n r s.data.toList) 3)]), .v (.int .i64 (rdF n r s.data.toList)), .v (.int .i64 (rdE n r s.data.toList))])) (entry 0 [.v (.int .i64 n), .v (.int .i64 r), .v (.string s)]) [] := by
  unfold code
  simp only [Tryz.f32, Option.getD_some]
  obtain ⟨l, rfl⟩ : ∃ l, s = bs l := ⟨_, Bt s⟩
  rw [Bz] at hp
  rw [Bd]
  have hV0 : V4 0 0 0 0 = 0 := rfl
  have hO := okB0 n
  have hc : ¬ (1 ≤ n ∧ n ≤ 6) ∨ ((1 ≤ n ∧ n ≤ 6) ∧ ¬ (0 ≤ r ∧ r ≤ 4)) ∨ ((1 ≤ n ∧ n ≤ 6) ∧ 0 ≤ r ∧ r ≤ 4) := by omega
  rcases hc with hn | ⟨hn, hr⟩ | ⟨hn, hr⟩
  case' inl =>
    rw [(rd_no (okR_n hn)).1, (rd_no (okR_n hn)).2.1, (rd_no (okR_n hn)).2.2]
    rw [decide_eq_false hn] at hO
    have h12 : (1 ≤ n ∧ n ≤ 12) ∨ ¬ (1 ≤ n ∧ n ≤ 12) := by omega
    rcases h12 with h12 | h12
    all_goals first
      | have hI := infoV_in h12
      | have hI := infoV_out h12
    all_goals have gR : decide ((4 : Int) ≥ 5) = false := rfl
  case' inr.inl =>
    rw [(rd_no (okR_d hr)).1, (rd_no (okR_d hr)).2.1, (rd_no (okR_d hr)).2.2]
    rw [decide_eq_true hn] at hO
    have gR : (decide (r ≥ 0) && decide (r ≤ 4)) = false := by
      rw [Bool.and_eq_false_iff, decide_eq_false_iff_not, decide_eq_false_iff_not]; omega
    have hI := infoV_in (n := n) (by omega)
  case' inr.inr =>
    have hR := okR_y hn hr
    rw [decide_eq_true hn] at hO
    have gR : (decide (r ≥ 0) && decide (r ≤ 4)) = true := by rw [decide_eq_true (by omega : r ≥ 0), decide_eq_true (by omega : r ≤ 4)]; rfl
    have hI := infoV_in (n := n) (by omega)
  all_goals repeat' (first
 | ((with_reducible first | (refine ZA ?_; intro X hX) | (show awp _ _ _ _ (Kp _ _) _) | refine ZD ?_ | refine ZE ?_ | refine ZF ?_ | ((show Bg _ _ _ _ _); simp only [hall]) | (refine ZR ?_ ?_ <;> intro hb <;> (try simp only [hb]) <;> have hq := hb <;> try simp only [HQ] at hq)) <;> try simp only [Go.AM.SS, Nat.reduceAdd, Nat.reduceMul, Nat.reduceSub, ↓reduceIte, Nat.reduceEqDiff, Nat.reduceLT, Nat.reduceLeDiff, reduceCtorEq, Int.reduceBEq, Int.reduceBNe, Nat.reduceBEq, Int.reduceEq, Int.reduceToNat, Int.reduceLE, Int.reduceLT, Nat.reduceDiv, Int.reduceAdd, Int.reduceSub, Int.reduceMul, Int.reduceNeg, Int.reduceGT, Int.reduceGE, Nat.reduceMod, k32_34, s34.eq_1, s34_eq, k32_91, s91.eq_1, s91_eq, k32_92, s92.eq_1, s92_eq, k32_93, s93.eq_1, s93_eq, ty_3, ty_4, ty_9, ty_22, ty_24, ty_26, ty_44, ty_95, bs_lit, bs_app, Bz, bs_beq, Bi, Bd, Be, bt_bs, List.length_append, List.append_nil, List.nil_append, List.cons_append, hV0, hO, hI, infoT, infoZ, gR])
 | with_reducible first
 | (refine hX _ _ ?_; clear hX X)
 | (refine ZG ?_; try clear hall all)
 | (refine hK _ _ ?_; clear hK K)
 | refine ZL ?_
 | (refine v_0 _ _ ?_; try clear v_0 V_0)
 | (refine v_1 _ _ ?_; try clear v_1 V_1)
 | ((first | refine qr 7 [6,7,8] ?_ | refine Zh (a := .seq (.region 5 _ _) _) [0,1,6,11] ?_ | refine qr 4 [0,1,6,11,12] ?_ | refine Zh (a := .seq (.region 1 _ _) _) [0,1,2,6] ?_ | refine qr 0 [0,1,2,6] ?_); intro V_0 v_0)
 | ((first | refine qr 6 [6,7,8] ?_ | refine qr 5 [0,1,6,11,12,33] ?_ | refine qr 3 [6,7,8] ?_ | refine qr 2 [0,1,2,6,25] ?_ | refine qr 1 [0,1,2,6,10] ?_); intro V_1 v_1)
 | (refine ZM ?_; intro K hK)
 | (refine ZN ?_; intro all hall K hK)
 | (refine ZQ ?_ ?_)
 | refine ZT ?_ | refine ZU ?_ | refine ZW ?_)
  all_goals try clear v_1 V_1
  all_goals try clear v_0 V_0
  all_goals (try simp only [inR])
  all_goals first
    | omega
    | (simp only [wk40]; done)
    | (rw [(rd_bad hR hq).1, (rd_bad hR hq).2.1, (rd_bad hR hq).2.2]; simp [wk40]; done)
    | (have hq2 := gCut_b hq; exact ⟨by omega, by omega, by omega⟩)
    | (rw [(rd_ok hR (by assumption)).1, (rd_ok hR (by assumption)).2.1, (rd_ok hR (by assumption)).2.2]; exact ⟨rfl, rfl, rfl⟩)
    | skip
theorem sound_32 : Sound Tryz.prog 32 .body (norm s32) := by
  refine sb Tryz.func32 rfl (by kernel_rfl) G32_ok (by kernel_rfl) fun ds p r hs hp => ?_
  unfold s32 at hs
  split at hs
  · cases hs; exact ⟨Nat.le_of_ble_eq_true (by kernel_rfl), wk32 _ _ _ hp⟩
  · cases hs
end Go.Proofs.AMT
set_option maxRecDepth 20000
namespace Go.AM.LN
open Go Go.Lib
theorem u8_of {c k : UInt8} (h : (c.toNat : Int) = (k.toNat : Int)) : c = k := UInt8.toNat_inj.1 (by omega)
theorem take_snoc {l : List UInt8} {k : Nat} (h : k < l.length) : l.take (k + 1) = l.take k ++ [l.getD k 0] := by
  rw [List.take_succ]
  simp [h]
theorem isDg_iff (c : UInt8) : isDg c = true ↔ 48 ≤ (c.toNat : Int) ∧ (c.toNat : Int) ≤ 57 := by
  unfold isDg; rw [decide_eq_true_eq]; omega
theorem isDg_lo {c : UInt8} (h : (c.toNat : Int) < 48) : isDg c = false := by
  rcases Bool.eq_false_or_eq_true (isDg c) with h1 | h1
  · have := (isDg_iff c).1 h1; omega
  · exact h1
theorem isDg_hi {c : UInt8} (h : 57 < (c.toNat : Int)) : isDg c = false := by
  rcases Bool.eq_false_or_eq_true (isDg c) with h1 | h1
  · have := (isDg_iff c).1 h1; omega
  · exact h1
theorem run_step {l : List UInt8} {k : Nat} (hk : (k : Int) < (l.length : Int)) (ha : (l.take k).all isDg = true) (h1 : 48 ≤ ((l.getD k 0).toNat : Int)) (h2 : ((l.getD k 0).toNat : Int) ≤ 57) : (l.take (k + 1)).all isDg = true := by
  rw [take_snoc (by omega), List.all_append, ha]
  simp only [List.all_cons, List.all_nil, Bool.and_true, Bool.true_and]
  exact (isDg_iff _).2 ⟨h1, h2⟩
theorem digits_no {l : List UInt8} {k : Nat} (hk : (k : Int) < (l.length : Int)) (h : isDg (l.getD k 0) = false) : (!l.isEmpty && l.all isDg) = false := by
  rw [Bool.and_eq_false_iff]
  right
  rw [List.all_eq_false]
  refine ⟨l.getD k 0, ?_, by rw [h]; simp⟩
  have : k < l.length := by omega
  simp [this]
theorem digits_end {l : List UInt8} {k : Nat} (ha : (l.take k).all isDg = true) (hk : (l.length : Int) ≤ (k : Int)) : (!l.isEmpty && l.all isDg) = decide ((l.length : Int) > 0) := by
  rw [List.take_of_length_le (by omega)] at ha
  rw [ha, Bool.and_true]
  cases l with
  | nil => rfl
  | cons c r => simp
theorem all_getD {l : List UInt8} {k : Nat} (ha : l.all isDg = true) (hk : k < l.length) : 48 ≤ (l.getD k 0).toNat ∧ (l.getD k 0).toNat ≤ 57 := by
  refine isDg_t (List.all_eq_true.1 ha _ ?_)
  simp [hk]
theorem dv_take {l : List UInt8} {k : Nat} (hk : k < l.length) : dv (l.take (k + 1)) = 10 * dv (l.take k) + ((l.getD k 0).toNat - 48) := by
  rw [take_snoc hk, dv_snoc]
theorem num_len {l : List UInt8} {k j : Nat} (h : k + j ≤ l.length) : ((l.drop k).take j).length = j := by rw [List.length_take, List.length_drop]; omega
theorem num_lt {l : List UInt8} {k j : Nat} (ha : l.all isDg = true) (h : k + j ≤ l.length) (hj : j ≤ 18) : dv ((l.drop k).take j) < 10 ^ j ∧ 10 ^ j ≤ 1000000000000000000 ∧ 0 < 10 ^ j := by
  have h1 := dv_lt _ (drop_all (drop_all ha k).1 j).2
  rw [num_len h] at h1
  exact ⟨h1, Nat.le_trans (Nat.pow_le_pow_right (by decide) hj) (by decide), Nat.pow_pos (by decide)⟩
theorem num_step {l : List UInt8} {k j : Nat} (h : k + j < l.length) : dv ((l.drop k).take (j + 1)) = 10 * dv ((l.drop k).take j) + ((l.getD (k + j) 0).toNat - 48) := by
  rw [dv_take (by rw [List.length_drop]; omega)]
  congr 2
  simp [List.getD]
theorem num_fin {l : List UInt8} {k j : Nat} (h : k + j ≤ l.length) : dv (l.take k) * 10 ^ j + dv ((l.drop k).take j) = dv (l.take (k + j)) := by
  rw [take_add, dv_app, num_len h]
theorem j_pos {j : Nat} (h : 1000000000000000000 ≤ ((10 ^ j : Nat) : Int)) : 1 ≤ j := by
  rcases Nat.eq_zero_or_pos j with h0 | h0
  · subst h0; simp at h
  · exact h0
theorem j_lt {j : Nat} (h : ((10 ^ j : Nat) : Int) < 1000000000000000000) (hj : j ≤ 18) : j < 18 := by
  rcases Nat.lt_or_ge j 18 with h0 | h0
  · exact h0
  · have : j = 18 := by omega
    subst this; simp at h
theorem mul_len {x y L M : Nat} (h : (limbs x).length ≤ L) (hy : y < 2 ^ (64 * M)) : (limbs (x * y)).length ≤ L + M := by
  refine len_le_of ?_
  have h1 := lt_of_len (n := x) h
  rw [Nat.mul_add, Nat.pow_add]
  exact Nat.mul_lt_mul'' h1 hy

end Go.AM.LN
set_option maxRecDepth 20000
namespace Go.AM.LN
open Go Go.Lib
structure WH (m a r : List UInt8) (q : Bool) : Prop where
  hr : r = a.drop 3
  no : ¬ m = wInf → ¬ m = wInfinity → ¬ a.take 3 = [110, 97, 110] → gWord m = none
  yes : ¬ m = wInf → ¬ m = wInfinity → a.take 3 = [110, 97, 110] → gWord m = gTail q r
section
variable {q : Bool} {r : List UInt8}
end
end Go.AM.LN
set_option maxRecDepth 20000
namespace Go.AM.LN
open Go Go.Lib

theorem dg_a {l : List UInt8} (h : ¬ l = []) (h2 : l.isEmpty = false → l.all isDg = false) : dgOk l = false := by
  unfold dgOk
  have : l.isEmpty = false := by cases l <;> simp_all
  rw [h2 this]; rfl
theorem dg_b {l : List UInt8} (h : ¬ l = []) (h2 : ((l.getD 0 0).toNat : Int) = 48) : dgOk l = false := by
  unfold dgOk
  cases l with
  | nil => exact absurd rfl h
  | cons c r =>
    have : c = 48 := u8_of (k := 48) h2
    subst this
    simp
theorem dg_c {l : List UInt8} (h2 : l.isEmpty = false ∧ l.all isDg = true) (h3 : ¬ ((l.getD 0 0).toNat : Int) = 48) : dgOk l = true := by
  unfold dgOk
  cases l with
  | nil => simp at h2
  | cons c r =>
    rw [h2.2]
    have : ¬ c = 48 := fun e => h3 (by subst e; rfl)
    simp [this]
theorem w4_0 (i : Nat) : w4 0 i = 0 := wk40 i
theorem val_1 : val [1] = 1 := by decide +kernel
theorem lim_1 : lim [1] ∧ limbs 1 = [1] := ⟨by intro x hx; simp at hx; subst hx; omega, limbs_of_lt (by omega) (by omega)⟩
theorem w4_1 : w4 1 0 = 1 ∧ w4 1 1 = 0 ∧ w4 1 2 = 0 ∧ w4 1 3 = 0 := by decide +kernel
theorem read_awake : rdV 3 0 [48, 46, 49] = 1036831949 ∧ rdF 3 0 [48, 46, 49] = 8 ∧ rdE 3 0 [48, 46, 49] = 0 := by
  have hc : gCut [48, 46, 49] = ⟨1, false, false, [49], -1, 0⟩ := by decide +kernel
  have hR : okR 3 0 = true := by decide +kernel
  have hi := Go.Lib.itoa_length_le (-1) (by omega) (by omega)
  have hl : (gText 1 false false [49] (-1)).length ≤ 4000 := by
    have e : gText 1 false false [49] (-1) = [49] ++ (101 :: itoa (-1)) := by unfold gText; simp
    rw [e, List.length_append, List.length_cons]
    simp only [List.length_cons, List.length_nil]
    omega
  have hG : gGood 1 false false [49] (-1) = true := by
    unfold gGood
    rw [decide_eq_true hl]
    decide +kernel
  have h := rd_ok (n := 3) (r := 0) (l := [48, 46, 49]) hR (by rw [hc])
  rw [hc] at h
  dsimp only at h
  rw [h.1, h.2.1, h.2.2, mk_ok hR hG, (mk_1 hR hG).1, (mk_1 hR hG).2]
  have eX : tenX 11000 [49] (-1) = 1 := by decide +kernel
  have eY : tenY 11000 (-1) = 10 := by decide +kernel
  rw [eX, eY]
  refine ⟨by decide +kernel, by decide +kernel, rfl⟩
theorem w4_awake : w4 1036831949 0 = 1036831949 ∧ w4 1036831949 1 = 0 ∧ w4 1036831949 2 = 0 ∧ w4 1036831949 3 = 0 := by decide +kernel
end Go.AM.LN
namespace Go.Proofs.AMT
open Go Go.Shelf Go.RowKit Go.Sort Go.Lib Go.AM.LN
def lowN (l : List UInt8) (i j : Nat) : Int := (((if j < i then lowB (l.getD j 0) else l.getD j 0).toNat : Nat) : Int)
structure SmI (w wr : World) (l : List UInt8) (i : Nat) : Prop where
  b : Below w.heap.size w wr
  lt : w.heap.size < wr.heap.size
  c : ∀ j, j < l.length → wr.cell? ⟨w.heap.size, j, none⟩ = some (.int .u8 (lowN l i j))
  f : ∀ j, j < l.length → wr.frozen? ⟨w.heap.size, j, none⟩ = false
end Go.Proofs.AMT
set_option maxRecDepth 20000
namespace Go.Proofs.AMT
open Go.AM Go.AM.LN
attribute [local congr] bindO_congr bindS_congr bindG_congr awpOps_congr aOne_congr awp_congr aCond_congr awpD_congr dOne_congr keysB_congr nOne_congr thenP_congr blockP_congr Chk_congr Brk_congr
noncomputable def s105 : Cs := fun ds => match ds with
  | [.sl .u64 a] => some (lim a ∧ a.length ≤ 100000000, .one (.fresh .u64 (limbs (val a))))
  | _ => none
theorem s105_eq (a : List Int) : norm s105 [.sl .u64 a] = s105 [.sl .u64 a] := rfl
theorem s105_nil1  : norm s105 [.v (.slice none 0 0)] = s105 [.sl .u64 []] := rfl
noncomputable def G105 : Gam := []
theorem G105_ok : Gk Tryz.prog G105 := Gn
theorem wk105 (a : List Int) (hp : lim a ∧ a.length ≤ 100000000) : awp ty G105 (code Tryz.f105) (retP ty Tryz.f105.results.toList (.one (.fresh .u64 (limbs (val a))))) (entry 0 [.sl .u64 a]) [] := by
  unfold code
  simp only [Tryz.f105, Option.getD_some]
  all_goals repeat' (first
 | ((with_reducible first | (refine ZA ?_; intro X hX) | (show awp _ _ _ _ (Kp _ _) _) | refine ZD ?_ | refine ZE ?_ | refine ZF ?_ | ((show Bg _ _ _ _ _); simp only [hall]) | (refine ZR ?_ ?_ <;> intro hb <;> (try simp only [hb]) <;> have hq := hb <;> try simp only [HQ] at hq)) <;> try simp only [Go.AM.SS, Nat.reduceAdd, Nat.reduceMul, Nat.reduceSub, ↓reduceIte, Nat.reduceEqDiff, Nat.reduceLT, Nat.reduceLeDiff, reduceCtorEq, Int.reduceBEq, Int.reduceBNe, Nat.reduceBEq, Int.reduceEq, Int.reduceToNat, Int.reduceLE, Int.reduceLT, Nat.reduceDiv, Int.reduceAdd, Int.reduceSub, Int.reduceMul, Int.reduceNeg, Int.reduceGT, Int.reduceGE, Nat.reduceMod, ty_3, ty_22, ty_50, aOne_append, bindP_some, spAppend, intSl, yInts, killE, namesT, names, List.map_cons, List.map_nil, toInts, List.nil_append, List.length_take])
 | with_reducible first
 | (refine hX _ _ ?_; clear hX X)
 | (refine ZG ?_; try clear hall all)
 | (refine hK _ _ ?_; clear hK K)
 | refine ZL ?_
 | (refine v_0 _ _ ?_; try clear v_0 V_0)
 | (refine v_1 _ _ ?_; try clear v_1 V_1)
 | (refine v_2 _ _ ?_; try clear v_2 V_2)
    | (with_reducible refine awp_lp (σ := Nat) (fun n => n ≤ a.length ∧ ∀ i, n ≤ i → a.getD i 0 = 0) (fun n => [(0, .rd .u64 a), (3, .v (.int .i64 n))]) (fun _ => []) (fun n => n) a.length ?_ ?_ (fun s hs => ?_))
 | ((first | refine qr 4 [2] ?_ | refine qb 0 [0,3] ?_ | refine qr 1 [0,3] ?_ | refine qr 0 [0] ?_); intro V_0 v_0)
 | ((first | refine Zh (a := .seq (.region 2 _ _) _) [0,3] ?_); intro V_1 v_1)
 | ((first | refine qr 2 [0,3,15] ?_); intro V_2 v_2)
 | (refine ZM ?_; intro K hK)
 | (refine ZN ?_; intro all hall K hK)
 | (refine ZQ ?_ ?_)
 | (refine Zg ?_; simp only [↓reduceIte, Nat.reduceEqDiff])
 | refine ZS ?_ | refine ZT ?_ | refine ZU ?_ | refine ZV ?_ | refine ZW ?_ | refine ZX ?_ | refine ZY ?_ | refine ZZ ?_ | refine Za ?_ | refine Ze ?_ | refine Zf ?_)
  all_goals try clear v_2 V_2
  all_goals try clear v_1 V_1
  all_goals try clear v_0 V_0
  all_goals (try simp only [inR])
  · exact ⟨Nat.le_refl _, fun i hi => by simp [List.getD, List.getElem?_eq_none hi]⟩
  · with_reducible exact Ent.refl _ _
  · omega
  · omega
  · omega
  · refine ⟨s - 1, by (refine Eo [] rfl ?_ ?_ <;> simp only [Me, Sl, AvLe, lk, ↓reduceIte, Nat.reduceEqDiff, Option.isSome_some, and_self, and_true, true_and, reduceCtorEq, List.map_nil, List.map_cons, Option.some.injEq, AV.v.injEq, Value.int.injEq, Value.bool.injEq, AV.rd.injEq, AV.ow.injEq, AV.al.injEq, AV.ref.injEq] <;> omega), ⟨by omega, fun i hi => ?_⟩, by omega⟩
    by_cases h : s ≤ i
    · exact hs.2 i h
    · have : i = s - 1 := by omega
      subst this
      have e : ((s : Int) - 1).toNat = s - 1 := by omega
      rw [e] at hq
      exact hq
  · omega
  · omega
  · have e : ((s : Int) - 1).toNat = s - 1 := by omega
    rw [e] at hq
    rw [← sz_eq s hs.1 hs.2 (.inr hq), Ts hp.1]
  · omega
  · omega
  · rw [← sz_eq s hs.1 hs.2 (.inl (by omega)), Ts hp.1]
theorem sound_105 : Sound Tryz.prog 105 .body (norm s105) := by
  refine sb Tryz.func105 rfl (by kernel_rfl) G105_ok (by kernel_rfl) fun ds p r hs hp => ?_
  unfold s105 at hs
  split at hs
  · cases hs; exact ⟨Nat.le_of_ble_eq_true (by kernel_rfl), wk105 _ hp⟩
  · cases hs
noncomputable def s109 : Cs := fun ds => match ds with
  | [.sl .u64 a, .v (.int .i64 i)] => some (0 ≤ i, .one (.v (.int .u64 (a.getD i.toNat 0))))
  | _ => none
theorem s109_eq (a : List Int) (i : Int) : norm s109 [.sl .u64 a, .v (.int .i64 i)] = s109 [.sl .u64 a, .v (.int .i64 i)] := rfl
theorem s109_nil1  (i : Int) : norm s109 [.v (.slice none 0 0), .v (.int .i64 i)] = s109 [.sl .u64 [], .v (.int .i64 i)] := rfl
noncomputable def G109 : Gam := []
theorem G109_ok : Gk Tryz.prog G109 := Gn
theorem wk109 (a : List Int) (i : Int) (hp : 0 ≤ i) : awp ty G109 (code Tryz.f109) (retP ty Tryz.f109.results.toList (.one (.v (.int .u64 (a.getD i.toNat 0))))) (entry 0 [.sl .u64 a, .v (.int .i64 i)]) [] := by
  unfold code
  simp only [Tryz.f109, Option.getD_some]
  all_goals repeat' (first
 | ((with_reducible first | (refine ZA ?_; intro X hX) | (show awp _ _ _ _ (Kp _ _) _) | refine ZD ?_ | refine ZE ?_ | refine ZF ?_ | ((show Bg _ _ _ _ _); simp only [hall]) | (refine ZR ?_ ?_ <;> intro hb <;> (try simp only [hb]) <;> have hq := hb <;> try simp only [HQ] at hq)) <;> try simp only [Go.AM.SS, Nat.reduceAdd, Nat.reduceMul, Nat.reduceSub, ↓reduceIte, Nat.reduceEqDiff, Nat.reduceLT, Nat.reduceLeDiff, reduceCtorEq, Int.reduceBEq, Int.reduceBNe, Nat.reduceBEq, Int.reduceEq, Int.reduceToNat, Int.reduceLE, Int.reduceLT, Nat.reduceDiv, Int.reduceAdd, Int.reduceSub, Int.reduceMul, Int.reduceNeg, Int.reduceGT, Int.reduceGE, Nat.reduceMod, ty_3, ty_22, ty_50])
 | with_reducible first
 | (refine hX _ _ ?_; clear hX X)
 | (refine ZG ?_; try clear hall all)
 | (refine hK _ _ ?_; clear hK K)
 | refine ZL ?_
 | (refine v_0 _ _ ?_; try clear v_0 V_0)
 | (refine v_1 _ _ ?_; try clear v_1 V_1)
 | ((first | refine qr 3 [4] ?_ | refine Zh (a := .seq (.region 1 _ _) _) [0,1] ?_ | refine qr 0 [0,1] ?_); intro V_0 v_0)
 | ((first | refine qr 2 [4] ?_ | refine qr 1 [0,1,12] ?_); intro V_1 v_1)
 | (refine ZM ?_; intro K hK)
 | (refine ZN ?_; intro all hall K hK)
 | (refine ZQ ?_ ?_)
 | refine ZT ?_ | refine ZU ?_ | refine ZW ?_)
  all_goals try clear v_1 V_1
  all_goals try clear v_0 V_0
  all_goals (try simp only [inR])
  all_goals first
    | omega
    | rfl
    | (rw [getD_out (by omega)])
theorem sound_109 : Sound Tryz.prog 109 .body (norm s109) := by
  refine sb Tryz.func109 rfl (by kernel_rfl) G109_ok (by kernel_rfl) fun ds p r hs hp => ?_
  unfold s109 at hs
  split at hs
  · cases hs; exact ⟨Nat.le_of_ble_eq_true (by kernel_rfl), wk109 _ _ hp⟩
  · cases hs
end Go.Proofs.AMT
