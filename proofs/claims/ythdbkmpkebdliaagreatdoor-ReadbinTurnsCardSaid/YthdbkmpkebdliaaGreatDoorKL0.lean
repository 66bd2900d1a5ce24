/- Part of the proof: own text. -/
import Derived.Test.YthdbkmpkebdliaaGreatDoorKG0
import Derived.Test.YthdbkmpkebdliaaGreatDoorKD0
set_option linter.all false
set_option maxHeartbeats 20000000
set_option maxRecDepth 20000
namespace Go.Proofs.AMT
open Go.AM Go.AM.LN
attribute [local congr] bindO_congr bindS_congr bindG_congr awpOps_congr aOne_congr awp_congr aCond_congr awpD_congr dOne_congr keysB_congr nOne_congr thenP_congr blockP_congr Chk_congr Brk_congr
noncomputable def s12 : Cs := fun ds => match ds with
  | [.v (.int .i64 n), .v (.int .i64 r), .v (.string s)] => some (True, .one (.v (.bool true)))
  | _ => none
noncomputable def G12 : Gam := [(29, .body, norm s29), (31, .body, norm s31), (32, .body, norm s32), (37, .body, norm s37), (44, .body, norm s44)]
theorem G12_ok : Gk Tryz.prog G12 := Gc sound_29 (Gc sound_31 (Gc sound_32 (Gc sound_37 (Gc sound_44 Gn))))
theorem k12_29 : lk G12 29 = some (.body, norm s29) := rfl
theorem k12_31 : lk G12 31 = some (.body, norm s31) := rfl
theorem k12_32 : lk G12 32 = some (.body, norm s32) := rfl
theorem k12_37 : lk G12 37 = some (.body, norm s37) := rfl
theorem k12_44 : lk G12 44 = some (.body, norm s44) := rfl
theorem wk12 (n : Int) (r : Int) (s : ByteArray) (hp : True) : awp ty G12 (code Tryz.f12) (retP ty Tryz.f12.results.toList (.one (.v (.bool true)))) (entry 0 [.v (.int .i64 n), .v (.int .i64 r), .v (.string s)]) [] := by
  unfold code
  simp only [Tryz.f12, Option.getD_some]
  obtain ⟨l, rfl⟩ : ∃ l, s = bs l := ⟨_, Bt s⟩
  have gk : decide ((4 : Int) ≥ 5) = false := rfl
  have gR : decide ((4 : Int) ≥ 5) = false := rfl
  have g3 : decide ((4 : Int) ≥ 5) = false := rfl
  have g0 : decide ((4 : Int) ≥ 5) = false := rfl
  have g45 : decide ((4 : Int) ≥ 5) = false := rfl
  have g43 : decide ((4 : Int) ≥ 5) = false := rfl
  have gr3 : decide ((4 : Int) ≥ 5) = false := rfl
  have gr4 : decide ((4 : Int) ≥ 5) = false := rfl
  have gE : decide ((4 : Int) ≥ 5) = false := rfl
  have hEA : decide ((4 : Int) ≥ 5) = false := rfl
  have hEB : decide ((4 : Int) ≥ 5) = false := rfl
  have hF : decide ((4 : Int) ≥ 5) = false := rfl
  have hA : decide ((4 : Int) ≥ 5) = false := rfl
  have hB : decide ((4 : Int) ≥ 5) = false := rfl
  have hVA : decide ((4 : Int) ≥ 5) = false := rfl
  have hVB : decide ((4 : Int) ≥ 5) = false := rfl
  have u1 : decide ((4 : Int) ≥ 5) = false := rfl
  have u2 : decide ((4 : Int) ≥ 5) = false := rfl
  have u3 : decide ((4 : Int) ≥ 5) = false := rfl
  have u4 : decide ((4 : Int) ≥ 5) = false := rfl
  have u5 : decide ((4 : Int) ≥ 5) = false := rfl
  have v1 : decide ((4 : Int) ≥ 5) = false := rfl
  have v2 : decide ((4 : Int) ≥ 5) = false := rfl
  have v3 : decide ((4 : Int) ≥ 5) = false := rfl
  have v4 : decide ((4 : Int) ≥ 5) = false := rfl
  have v5 : decide ((4 : Int) ≥ 5) = false := rfl
  have hc : ¬ (1 ≤ n ∧ n ≤ 6) ∨ ((1 ≤ n ∧ n ≤ 6) ∧ ¬ (0 ≤ r ∧ r ≤ 4)) ∨ ((1 ≤ n ∧ n ≤ 6) ∧ 0 ≤ r ∧ r ≤ 4) := by omega
  rcases hc with hn | ⟨hn, hr⟩ | ⟨hn, hr⟩
  case' inl =>
    have gk : (decide (n ≥ 1) && decide (n ≤ 6)) = false := by
      rw [Bool.and_eq_false_iff, decide_eq_false_iff_not, decide_eq_false_iff_not]; omega
  case' inr.inl =>
    have gk : (decide (n ≥ 1) && decide (n ≤ 6)) = true := by rw [decide_eq_true (by omega : n ≥ 1), decide_eq_true (by omega : n ≤ 6)]; rfl
    have gR : (decide (r ≥ 0) && decide (r ≤ 4)) = false := by
      rw [Bool.and_eq_false_iff, decide_eq_false_iff_not, decide_eq_false_iff_not]; omega
  case' inr.inr =>
    have gk : (decide (n ≥ 1) && decide (n ≤ 6)) = true := by rw [decide_eq_true (by omega : n ≥ 1), decide_eq_true (by omega : n ≤ 6)]; rfl
    have gR : (decide (r ≥ 0) && decide (r ≤ 4)) = true := by rw [decide_eq_true (by omega : r ≥ 0), decide_eq_true (by omega : r ≤ 4)]; rfl
    have hR := okR_y hn hr
    rcases Classical.em ((l.length : Int) > 3000) with hl | hl
    case' inl =>
      have g3 : decide ((l.length : Int) > 3000) = true := decide_eq_true hl
    case' inr =>
      have g3 : decide ((l.length : Int) > 3000) = false := decide_eq_false hl
      rcases Classical.em ((l.length : Int) = 0) with h0 | h0
      case' inl =>
        have g0 : ((l.length : Int) == 0) = true := by rw [h0]; rfl
      case' inr =>
        have g0 : ((l.length : Int) == 0) = false := by rw [beq_eq_false_iff_ne]; exact h0
        rcases Classical.em (((l.getD 0 0).toNat : Int) = 45) with h1 | h1
        case' inl =>
          have g45 : (((l.getD 0 0).toNat : Int) == 45) = true := by rw [h1]; rfl
        case' inr =>
          have g45 : (((l.getD 0 0).toNat : Int) == 45) = false := by rw [beq_eq_false_iff_ne]; exact h1
          rcases Classical.em (((l.getD 0 0).toNat : Int) = 43) with h2 | h2
          case' inl =>
            have g43 : (((l.getD 0 0).toNat : Int) == 43) = true := by rw [h2]; rfl
          case' inr =>
            have g43 : (((l.getD 0 0).toNat : Int) == 43) = false := by rw [beq_eq_false_iff_ne]; exact h2
            have hpos : 0 < (l.length : Int) := by omega
            obtain ⟨T1, T2⟩ := rd_turn hn hR (by omega) (hd_ne h1) (hd_ne h2)
            have hq : r = 3 ∨ r = 4 ∨ (¬ r = 3 ∧ ¬ r = 4) := by omega
            rcases hq with rfl | rfl | ⟨h3, h4⟩
            case' inl =>
              rw [show flipD 3 = 4 from rfl] at T1 T2
              obtain ⟨E, hEA⟩ : ∃ E, rdE n 3 l = E := ⟨_, rfl⟩
              rw [hEA] at T1 T2
              rcases Classical.em (E = 0) with hE | hE
              case' inr =>
                have gE : (E == 0) = false := by rw [beq_eq_false_iff_ne]; exact hE
                have hEB := T1
              case' inl =>
                subst hE
                have hEB := T1
                obtain ⟨hF, cl, q, C, ex, hD, hA, hB⟩ := T2 rfl
                have hPA := packS_lt (sg := false) hn hD
                have hPB := packS_lt (sg := true) hn hD
                obtain ⟨_, u1, u2, u3, u4, u5⟩ := pack_unpack (sg := false) hn hD
                obtain ⟨_, v1, v2, v3, v4, v5⟩ := pack_unpack (sg := true) hn hD
                generalize packS n cl false q C ex = PA at *
                generalize packS n cl true q C ex = PB at *
                have hVA := V4_w4 hPA
                have hVB := V4_w4 hPB
            case' inr.inl =>
              rw [show flipD 4 = 3 from rfl] at T1 T2
              obtain ⟨E, hEA⟩ : ∃ E, rdE n 4 l = E := ⟨_, rfl⟩
              rw [hEA] at T1 T2
              rcases Classical.em (E = 0) with hE | hE
              case' inr =>
                have gE : (E == 0) = false := by rw [beq_eq_false_iff_ne]; exact hE
                have hEB := T1
              case' inl =>
                subst hE
                have hEB := T1
                obtain ⟨hF, cl, q, C, ex, hD, hA, hB⟩ := T2 rfl
                have hPA := packS_lt (sg := false) hn hD
                have hPB := packS_lt (sg := true) hn hD
                obtain ⟨_, u1, u2, u3, u4, u5⟩ := pack_unpack (sg := false) hn hD
                obtain ⟨_, v1, v2, v3, v4, v5⟩ := pack_unpack (sg := true) hn hD
                generalize packS n cl false q C ex = PA at *
                generalize packS n cl true q C ex = PB at *
                have hVA := V4_w4 hPA
                have hVB := V4_w4 hPB
            case' inr.inr =>
              have gr3 : (r == 3) = false := by rw [beq_eq_false_iff_ne]; exact h3
              have gr4 : (r == 4) = false := by rw [beq_eq_false_iff_ne]; exact h4
              rw [flip_lo hr h3 h4] at T1 T2
              obtain ⟨E, hEA⟩ : ∃ E, rdE n r l = E := ⟨_, rfl⟩
              rw [hEA] at T1 T2
              rcases Classical.em (E = 0) with hE | hE
              case' inr =>
                have gE : (E == 0) = false := by rw [beq_eq_false_iff_ne]; exact hE
                have hEB := T1
              case' inl =>
                subst hE
                have hEB := T1
                obtain ⟨hF, cl, q, C, ex, hD, hA, hB⟩ := T2 rfl
                have hPA := packS_lt (sg := false) hn hD
                have hPB := packS_lt (sg := true) hn hD
                obtain ⟨_, u1, u2, u3, u4, u5⟩ := pack_unpack (sg := false) hn hD
                obtain ⟨_, v1, v2, v3, v4, v5⟩ := pack_unpack (sg := true) hn hD
                generalize packS n cl false q C ex = PA at *
                generalize packS n cl true q C ex = PB at *
                have hVA := V4_w4 hPA
                have hVB := V4_w4 hPB
  all_goals repeat' (first
 | ((with_reducible first | (refine ZA ?_; intro X hX) | (show awp _ _ _ _ (Kp _ _) _) | refine ZD ?_ | refine ZE ?_ | refine ZF ?_ | ((show Bg _ _ _ _ _); simp only [hall]) | (refine ZR ?_ ?_ <;> intro hb <;> (try simp only [hb]) <;> have hq := hb <;> try simp only [HQ] at hq)) <;> try simp only [Go.AM.SS, Nat.reduceAdd, Nat.reduceMul, Nat.reduceSub, ↓reduceIte, Nat.reduceEqDiff, Nat.reduceLT, Nat.reduceLeDiff, reduceCtorEq, Int.reduceBEq, Int.reduceBNe, Nat.reduceBEq, Int.reduceEq, Int.reduceToNat, Int.reduceLE, Int.reduceLT, Nat.reduceDiv, Int.reduceAdd, Int.reduceSub, Int.reduceMul, Int.reduceNeg, Int.reduceGT, Int.reduceGE, Nat.reduceMod, k12_29, s29.eq_1, s29_eq, k12_31, s31.eq_1, s31_eq, k12_32, s32.eq_1, s32_eq, k12_37, s37.eq_1, s37_eq, k12_44, s44.eq_1, s44_eq, ty_3, ty_4, ty_5, ty_9, ty_22, ty_24, ty_26, ty_33, beq_self_eq_true, gk, gR, g3, g0, g45, g43, gr3, gr4, gE, hEA, hEB, hF, hA, hB, hVA, hVB, u1, u2, u3, u4, u5, v1, v2, v3, v4, v5, bs_lit, bs_app, Bz, bs_beq, Bi, Bd, Be, bt_bs, List.length_append, List.append_nil, List.nil_append, List.cons_append])
 | with_reducible first
 | (refine hX _ _ ?_; clear hX X)
 | (refine ZG ?_; try clear hall all)
 | (refine hK _ _ ?_; clear hK K)
 | refine ZL ?_
 | (refine v_0 _ _ ?_; try clear v_0 V_0)
 | (refine v_1 _ _ ?_; try clear v_1 V_1)
 | ((first | refine qr 16 [6] ?_ | refine qr 15 [9,12,14,16,18] ?_ | refine qr 14 [9,12,14,16,18] ?_ | refine qr 13 [9,12,14,16] ?_ | refine qr 12 [0,9,11,12,14] ?_ | refine Zh (a := .seq (.region 10 _ _) _) [0,8,9,11,12] ?_ | refine qr 9 [0,8,9,10,11,12,13] ?_ | refine qr 8 [0,2,7,8,9,10] ?_ | refine Zh (a := .seq (.region 6 _ _) _) [0,1,2,7] ?_ | refine qr 5 [0,1,2,7] ?_ | refine Zh (a := .seq (.region 3 _ _) _) [0,1,2] ?_ | refine Zh (a := .seq (.region 1 _ _) _) [0,1,2] ?_ | refine qr 0 [0,1,2] ?_); intro V_0 v_0)
 | ((first | refine qr 11 [6] ?_ | refine qr 10 [0,8,9,10,11,12,13,82] ?_ | refine qr 6 [0,1,2,7,56] ?_ | refine qr 4 [6] ?_ | refine qr 3 [0,1,2,49] ?_ | refine qr 2 [6] ?_ | refine qr 1 [0,1,2,35] ?_); intro V_1 v_1)
 | (refine ZM ?_; intro K hK)
 | (refine ZN ?_; intro all hall K hK)
 | (refine ZQ ?_ ?_)
 | refine ZT ?_ | refine ZU ?_ | refine ZW ?_)
  all_goals try clear v_1 V_1
  all_goals try clear v_0 V_0
  all_goals (try simp only [inR])
  all_goals first
    | omega
    | exact hpos
    | exact ⟨Wl _ _, Wl _ _, Wl _ _, Wl _ _⟩
    | skip
theorem sound_12 : Sound Tryz.prog 12 .body (norm s12) := by
  refine sb Tryz.func12 rfl (by kernel_rfl) G12_ok (by kernel_rfl) fun ds p r hs hp => ?_
  unfold s12 at hs
  split at hs
  · cases hs; exact ⟨Nat.le_of_ble_eq_true (by kernel_rfl), wk12 _ _ _ hp⟩
  · cases hs
end Go.Proofs.AMT
