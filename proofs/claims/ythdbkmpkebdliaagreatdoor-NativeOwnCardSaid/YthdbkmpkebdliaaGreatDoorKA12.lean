/- Part of the proof: own text. -/
import Derived.Test.YthdbkmpkebdliaaGreatDoorKA10
set_option linter.all false
set_option maxHeartbeats 20000000
set_option maxRecDepth 20000
namespace Go.Proofs.AMT
open Go.AM Go.AM.LN
attribute [local congr] bindO_congr bindS_congr bindG_congr awpOps_congr aOne_congr awp_congr aCond_congr awpD_congr dOne_congr keysB_congr nOne_congr thenP_congr blockP_congr Chk_congr Brk_congr
noncomputable def s101 : Cs := fun ds => match ds with
  | [.v (.agg ⟨[.int .i64 cl, .bool sg, .bool si, .string D, .int .i64 ex]⟩), .sl .u64 b] => some ((D.data.toList.all isDg = true ∧ D.size ≤ 4000) ∧ (lim b ∧ b.length ≤ 4) ∧ val b ≤ 2 ^ 255, .one (.v (.agg #[.int .u64 (w4 (payV si (dv D.data.toList) (val b)) 0), .int .u64 (w4 (payV si (dv D.data.toList) (val b)) 1), .int .u64 (w4 (payV si (dv D.data.toList) (val b)) 2), .int .u64 (w4 (payV si (dv D.data.toList) (val b)) 3)])))
  | _ => none
theorem s101_eq (cl : Int) (sg : Bool) (si : Bool) (D : ByteArray) (ex : Int) (b : List Int) : norm s101 [.v (.agg #[.int .i64 cl, .bool sg, .bool si, .string D, .int .i64 ex]), .sl .u64 b] = s101 [.v (.agg #[.int .i64 cl, .bool sg, .bool si, .string D, .int .i64 ex]), .sl .u64 b] := rfl
theorem s101_nil1 (cl : Int) (sg : Bool) (si : Bool) (D : ByteArray) (ex : Int)  : norm s101 [.v (.agg #[.int .i64 cl, .bool sg, .bool si, .string D, .int .i64 ex]), .v (.slice none 0 0)] = s101 [.v (.agg #[.int .i64 cl, .bool sg, .bool si, .string D, .int .i64 ex]), .sl .u64 []] := rfl
noncomputable def G101 : Gam := [(96, .body, norm s96), (97, .body, norm s97), (141, .body, norm s141), (169, .body, norm s169)]
theorem G101_ok : Gk Tryz.prog G101 := Gc sound_96 (Gc sound_97 (Gc sound_141 (Gc sound_169 Gn)))
theorem k101_96 : lk G101 96 = some (.body, norm s96) := rfl
theorem k101_97 : lk G101 97 = some (.body, norm s97) := rfl
theorem k101_141 : lk G101 141 = some (.body, norm s141) := rfl
theorem k101_169 : lk G101 169 = some (.body, norm s169) := rfl
theorem wk101 (cl : Int) (sg : Bool) (si : Bool) (D : ByteArray) (ex : Int) (b : List Int) (hp : (D.data.toList.all isDg = true ∧ D.size ≤ 4000) ∧ (lim b ∧ b.length ≤ 4) ∧ val b ≤ 2 ^ 255) : awp ty G101 (code Tryz.f101) (retP ty Tryz.f101.results.toList (.one (.v (.agg #[.int .u64 (w4 (payV si (dv D.data.toList) (val b)) 0), .int .u64 (w4 (payV si (dv D.data.toList) (val b)) 1), .int .u64 (w4 (payV si (dv D.data.toList) (val b)) 2), .int .u64 (w4 (payV si (dv D.data.toList) (val b)) 3)])))) (entry 0 [.v (.agg #[.int .i64 cl, .bool sg, .bool si, .string D, .int .i64 ex]), .sl .u64 b]) [] := by
  unfold code
  simp only [Tryz.f101, Option.getD_some]
  obtain ⟨d, rfl⟩ : ∃ d, D = bs d := ⟨_, Bt D⟩
  rw [Bz, Bd] at hp
  rw [Bd]
  have l48 : (48 :: d).all isDg = true := by rw [List.all_cons, hp.1.1]; rfl
  have hpl := len4 (payV_lt (q := si) (x := dv d) hp.2.2)
  have hL := dv_len hp.1.1
  have e48 := dv_0 d
  all_goals repeat' (first
 | ((with_reducible first | (refine ZA ?_; intro X hX) | (show awp _ _ _ _ (Kp _ _) _) | refine ZD ?_ | refine ZE ?_ | refine ZF ?_ | ((show Bg _ _ _ _ _); simp only [hall]) | (refine ZR ?_ ?_ <;> intro hb <;> (try simp only [hb]) <;> have hq := hb <;> try simp only [HQ] at hq)) <;> try simp only [Go.AM.SS, Nat.reduceAdd, Nat.reduceMul, Nat.reduceSub, ↓reduceIte, Nat.reduceEqDiff, Nat.reduceLT, Nat.reduceLeDiff, reduceCtorEq, Int.reduceBEq, Int.reduceBNe, Nat.reduceBEq, Int.reduceEq, Int.reduceToNat, Int.reduceLE, Int.reduceLT, Nat.reduceDiv, Int.reduceAdd, Int.reduceSub, Int.reduceMul, Int.reduceNeg, Int.reduceGT, Int.reduceGE, Nat.reduceMod, k101_96, s96.eq_1, s96_eq, k101_97, s97.eq_1, s97_eq, k101_141, s141.eq_1, s141_eq, s141_nil1, s141_nil2, s141_nil3, k101_169, s169.eq_1, s169_eq, s169_nil1, ty_3, ty_4, ty_9, ty_22, ty_24, ty_44, ty_50, bs_lit, bs_app, Bz, bs_beq, Bi, Bd, Be, bt_bs, List.length_append, List.append_nil, List.nil_append, List.cons_append, toInts, Vl, limbs_getD, e48])
 | with_reducible first
 | (refine hX _ _ ?_; clear hX X)
 | (refine ZG ?_; try clear hall all)
 | (refine hK _ _ ?_; clear hK K)
 | refine ZL ?_
 | (refine v_0 _ _ ?_; try clear v_0 V_0)
 | (refine v_1 _ _ ?_; try clear v_1 V_1)
 | ((first | refine qr 6 [4] ?_ | refine Zh (a := .seq (.region 4 _ _) _) [4,5] ?_ | refine Zh (a := .seq (.region 2 _ _) _) [2,4,5] ?_ | refine qr 1 [1,2,4,5] ?_ | refine qr 0 [1,2,4] ?_); intro V_0 v_0)
 | ((first | refine qr 4 [4,5,24] ?_ | refine qr 2 [2,4,5,17] ?_); intro V_1 v_1)
 | (refine ZM ?_; intro K hK)
 | (refine ZN ?_; intro all hall K hK)
 | (refine ZQ ?_ ?_)
 | refine ZT ?_ | refine ZU ?_ | refine ZW ?_)
  all_goals try clear v_1 V_1
  all_goals try clear v_0 V_0
  all_goals (try simp only [inR])
  all_goals first
    | omega
    | exact ⟨l48, by omega⟩
    | exact ⟨⟨Ml _, by omega⟩, hp.2.1.1, by omega⟩
    | exact ⟨Ml _, by decide +kernel⟩
    | exact fun x hx => absurd hx (by simp)
    | (rw [hq, payV_0t (x := dv d) (B := val b) (pay_ge (by assumption))]; done)
    | (rw [hq, payV_0f (x := dv d) (B := val b) (pay_ge (by assumption))]; simp only [wk40]; rfl)
    | (have z : dv d = 0 := len_zero.1 (by omega)
       have hs : si = true := by assumption
       rw [hs, payV_0t (x := dv d) (B := val b) (by rw [z]; split <;> rfl)]; done)
    | (have z : dv d ≠ 0 := fun h => hq (by have := (len_zero (x := dv d)).2 h; omega)
       have e := payV_x (q := si) (x := dv d) (B := val b) (pay_lt (by assumption)) (.inr z)
       rw [e] at hpl; exact ⟨Ml _, hpl⟩)
    | (have z : dv d ≠ 0 := fun h => hq (by have := (len_zero (x := dv d)).2 h; omega)
       rw [payV_x (q := si) (x := dv d) (B := val b) (pay_lt (by assumption)) (.inr z)]; done)
    | (have e := payV_x (q := si) (x := dv d) (B := val b) (pay_lt (by assumption)) (.inl hq)
       rw [e] at hpl; exact ⟨Ml _, hpl⟩)
    | (rw [payV_x (q := si) (x := dv d) (B := val b) (pay_lt (by assumption)) (.inl hq)]; done)
    | skip
theorem sound_101 : Sound Tryz.prog 101 .body (norm s101) := by
  refine sb Tryz.func101 rfl (by kernel_rfl) G101_ok (by kernel_rfl) fun ds p r hs hp => ?_
  unfold s101 at hs
  split at hs
  · cases hs; exact ⟨Nat.le_of_ble_eq_true (by kernel_rfl), wk101 _ _ _ _ _ _ hp⟩
  · cases hs
end Go.Proofs.AMT
set_option maxRecDepth 20000
namespace Go.AM.LN
open Go Go.Lib
section
variable {n r c : Int} {s q : Bool} {d : List UInt8} {x : Int}
theorem mk_no (h : okR n r = false) : mkE n r c s q d x = 1 ∧ mkV n r c s q d x = 0 ∧ mkF n r c s q d x = 0 := by
  have e : mkE n r c s q d x = 1 := by unfold mkE; rw [h]; rfl
  refine ⟨e, ?_, ?_⟩
  · unfold mkV; rw [e]; rfl
  · unfold mkF; rw [e]; rfl
theorem mk_bad (h : okR n r = true) (hg : gGood c s q d x = false) : mkE n r c s q d x = 2 ∧ mkV n r c s q d x = 0 ∧ mkF n r c s q d x = 0 := by
  have e : mkE n r c s q d x = 2 := by unfold mkE; rw [h, hg]; rfl
  refine ⟨e, ?_, ?_⟩
  · unfold mkV; rw [e]; rfl
  · unfold mkF; rw [e]; rfl
theorem mk_ok (h : okR n r = true) (hg : gGood c s q d x = true) : mkE n r c s q d x = 0 := by unfold mkE; rw [h, hg]; rfl
theorem mk_1 (h : okR n r = true) (hg : gGood 1 s q d x = true) : mkV n r 1 s q d x = rndV n r s (tenX 11000 d x) (tenY 11000 x) 0 ∧ mkF n r 1 s q d x = rndF n r s (tenX 11000 d x) (tenY 11000 x) 0 := by
  have e := mk_ok h hg
  unfold mkV mkF
  rw [e]
  exact ⟨rfl, rfl⟩
theorem mk_2 (h : okR n r = true) (hg : gGood 2 s q d x = true) : mkV n r 2 s q d x = packS n 2 s false 0 0 ∧ mkF n r 2 s q d x = 0 := by
  have e := mk_ok h hg
  unfold mkV mkF
  rw [e]
  exact ⟨rfl, rfl⟩
theorem mk_3 (h : okR n r = true) (hg : gGood 3 s q d x = true) : mkV n r 3 s q d x = packS n 3 s q (payV q (dv d) (2 ^ (fl n).toNat)) 0 ∧ mkF n r 3 s q d x = 0 := by
  have e := mk_ok h hg
  unfold mkV mkF
  rw [e]
  exact ⟨rfl, rfl⟩
theorem good_1 (hg : gGood 1 s q d x = true) : q = false := by
  unfold gGood at hg; simp at hg; exact hg.2.1.1
theorem good_2 (hg : gGood 2 s q d x = true) : q = false ∧ d = [] ∧ x = 0 := by
  unfold gGood at hg; simp at hg; exact ⟨hg.2.1.1, hg.2.1.2, hg.2.2⟩
theorem good_3 (hg : gGood 3 s q d x = true) : x = 0 := by
  unfold gGood at hg; simp at hg; exact hg.2.1
theorem pay_isD (hn : 1 ≤ n ∧ n ≤ 6) (X : Nat) : isD n 3 q (payV q X (2 ^ (fl n).toNat)) 0 := by
  obtain ⟨F1, F2, F3, F4, F5, F6, F7, F8, F9, F10, F11⟩ := bfmt hn
  refine .inr (.inr ⟨rfl, rfl, ?_, ?_⟩)
  · have h : payV q X (2 ^ (fl n).toNat) < 2 ^ (fl n).toNat := by
      have h2 : 2 ≤ 2 ^ (fl n).toNat := by
        have := Nat.pow_le_pow_right (show 0 < 2 by decide) (show 1 ≤ (fl n).toNat by omega)
        simpa using this
      unfold payV
      have hv : (if X < 2 ^ (fl n).toNat then X else 0) < 2 ^ (fl n).toNat := by split <;> omega
      generalize (if X < 2 ^ (fl n).toNat then X else 0) = v at *
      split <;> omega
    have := blen_lt.2 h
    omega
  · cases q
    · exact .inr rfl
    · left
      intro hc
      have h0 := blen_zero.1 hc
      unfold payV at h0
      generalize (if X < 2 ^ (fl n).toNat then X else 0) = v at *
      by_cases hv : v = 0
      · rw [if_pos ⟨rfl, hv⟩] at h0; exact absurd h0 (by decide)
      · rw [if_neg (fun hh => hv hh.2)] at h0; exact hv h0
theorem inf_isD (n : Int) : isD n 2 false 0 0 := .inr (.inl ⟨rfl, rfl, rfl, rfl⟩)
end
end Go.AM.LN
