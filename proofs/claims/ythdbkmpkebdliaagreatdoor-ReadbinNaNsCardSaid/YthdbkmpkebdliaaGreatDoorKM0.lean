/- Part of the proof: own text. -/
import Derived.Test.YthdbkmpkebdliaaGreatDoorKG0
import Derived.Test.YthdbkmpkebdliaaGreatDoorKF0
set_option linter.all false
set_option maxHeartbeats 20000000
set_option maxRecDepth 20000
namespace Go.Proofs.AMT
open Go.AM Go.AM.LN
attribute [local congr] bindO_congr bindS_congr bindG_congr awpOps_congr aOne_congr awp_congr aCond_congr awpD_congr dOne_congr keysB_congr nOne_congr thenP_congr blockP_congr Chk_congr Brk_congr
noncomputable def s11 : Cs := fun ds => match ds with
  | [.v (.int .i64 n), .v (.int .i64 r), .sl .u64 a, .v (.bool q), .v (.bool s)] => some (lim a ∧ a.length < 9223372036854775808, .one (.v (.bool true)))
  | _ => none
noncomputable def G11 : Gam := [(29, .body, norm s29), (31, .body, norm s31), (34, .body, norm s34), (37, .body, norm s37), (42, .body, norm s42), (44, .body, norm s44), (46, .body, norm s46), (47, .body, norm s47), (48, .body, norm s48)]
theorem G11_ok : Gk Tryz.prog G11 := Gc sound_29 (Gc sound_31 (Gc sound_34 (Gc sound_37 (Gc sound_42 (Gc sound_44 (Gc sound_46 (Gc sound_47 (Gc sound_48 Gn))))))))
theorem k11_29 : lk G11 29 = some (.body, norm s29) := rfl
theorem k11_31 : lk G11 31 = some (.body, norm s31) := rfl
theorem k11_34 : lk G11 34 = some (.body, norm s34) := rfl
theorem k11_37 : lk G11 37 = some (.body, norm s37) := rfl
theorem k11_42 : lk G11 42 = some (.body, norm s42) := rfl
theorem k11_44 : lk G11 44 = some (.body, norm s44) := rfl
theorem k11_46 : lk G11 46 = some (.body, norm s46) := rfl
theorem k11_47 : lk G11 47 = some (.body, norm s47) := rfl
theorem k11_48 : lk G11 48 = some (.body, norm s48) := rfl
theorem wk11 (n : Int) (r : Int) (a : List Int) (q : Bool) (s : Bool) (hp : lim a ∧ a.length < 9223372036854775808) : awp ty G11 (code Tryz.f11) (retP ty Tryz.f11.results.toList (.one (.v (.bool true)))) (entry 0 [.v (.int .i64 n), .v (.int .i64 r), .sl .u64 a, .v (.bool q), .v (.bool s)]) [] := by
  unfold code
  simp only [Tryz.f11, Option.getD_some]
  have gk : decide ((4 : Int) ≥ 5) = false := rfl
  have gR : decide ((4 : Int) ≥ 5) = false := rfl
  have g3 : decide ((4 : Int) ≥ 5) = false := rfl
  have hx : decide ((4 : Int) ≥ 5) = false := rfl
  have M1 : decide ((4 : Int) ≥ 5) = false := rfl
  have M2 : decide ((4 : Int) ≥ 5) = false := rfl
  have M3 : decide ((4 : Int) ≥ 5) = false := rfl
  have u0 : decide ((4 : Int) ≥ 5) = false := rfl
  have u1 : decide ((4 : Int) ≥ 5) = false := rfl
  have u2 : decide ((4 : Int) ≥ 5) = false := rfl
  have u3 : decide ((4 : Int) ≥ 5) = false := rfl
  have u4 : decide ((4 : Int) ≥ 5) = false := rfl
  have u5 : decide ((4 : Int) ≥ 5) = false := rfl
  have hVA : decide ((4 : Int) ≥ 5) = false := rfl
  have hI : decide ((4 : Int) ≥ 5) = false := rfl
  have g7 : decide ((4 : Int) ≥ 5) = false := rfl
  have e0 : decide ((4 : Int) ≥ 5) = false := rfl
  have e1 : decide ((4 : Int) ≥ 5) = false := rfl
  have e2 : decide ((4 : Int) ≥ 5) = false := rfl
  have e3 : decide ((4 : Int) ≥ 5) = false := rfl
  have gz : decide ((4 : Int) ≥ 5) = false := rfl
  have k0 : decide ((4 : Int) ≥ 5) = false := rfl
  have k1 : decide ((4 : Int) ≥ 5) = false := rfl
  have k2 : decide ((4 : Int) ≥ 5) = false := rfl
  have k3 : decide ((4 : Int) ≥ 5) = false := rfl
  have hc : ¬ (1 ≤ n ∧ n ≤ 6) ∨ ((1 ≤ n ∧ n ≤ 6) ∧ ¬ (0 ≤ r ∧ r ≤ 4)) ∨ ((1 ≤ n ∧ n ≤ 6) ∧ 0 ≤ r ∧ r ≤ 4) := by omega
  rcases hc with hn | ⟨hn, hr⟩ | ⟨hn, hr⟩
  case' inl =>
    have gk : (decide (n ≥ 1) && decide (n ≤ 6)) = false := by
      rw [Bool.and_eq_false_iff, decide_eq_false_iff_not, decide_eq_false_iff_not]; omega
  case' inr.inl =>
    have gk : (decide (n ≥ 1) && decide (n ≤ 6)) = true := by rw [decide_eq_true (by omega : n ≥ 1), decide_eq_true (by omega : n ≤ 6)]; rfl
    have gR : (decide (r ≥ 0) && decide (r ≤ 4)) = false := by
      rw [Bool.and_eq_false_iff, decide_eq_false_iff_not, decide_eq_false_iff_not]; omega
  case' inr.inr =>
    have gk : (decide (n ≥ 1) && decide (n ≤ 6)) = true := by rw [decide_eq_true (by omega : n ≥ 1), decide_eq_true (by omega : n ≤ 6)]; rfl
    have gR : (decide (r ≥ 0) && decide (r ≤ 4)) = true := by rw [decide_eq_true (by omega : r ≥ 0), decide_eq_true (by omega : r ≤ 4)]; rfl
    have hR := okR_y hn hr
    rcases Classical.em ((a.length : Int) > 30) with hl | hl
    case' inl =>
      have g3 : decide ((a.length : Int) > 30) = true := decide_eq_true hl
    case' inr =>
      have g3 : decide ((a.length : Int) > 30) = false := decide_eq_false hl
      have hI := infoV_in (n := n) (by omega)
      obtain ⟨F1, F2, F3, F4, F5, F6, F7, F8, F9, F10, F11⟩ := bfmt hn
      have hN := val_lt30 hp.1 (by omega)
      have hN9 := val_lt30' hp.1 (by omega)
      obtain ⟨e0, e1, e2, e3⟩ := w4_get (a := a) hp.1
      obtain ⟨N, hx⟩ : ∃ N, val a = N := ⟨_, rfl⟩
      rw [hx] at hN hN9 e0 e1 e2 e3
      have hL9 := decS_len (k := 700) hN (by decide)
      obtain ⟨M1, M2, M3, M4⟩ := nan_mk (q := q) (s := s) hn hR hN
      have hcs : ((blen N : Int) ≤ fl n ∧ N = 0 ∧ q = true) ∨ ((blen N : Int) ≤ fl n ∧ N = 0 ∧ q = false) ∨ ((blen N : Int) ≤ fl n ∧ ¬ N = 0) ∨ (¬ (blen N : Int) ≤ fl n ∧ q = true) ∨ (¬ (blen N : Int) ≤ fl n ∧ q = false) := by
        cases q <;> simp <;> omega
      rcases hcs with ⟨h7, hz, rfl⟩ | ⟨h7, hz, rfl⟩ | ⟨h7, hz⟩ | ⟨h7, rfl⟩ | ⟨h7, rfl⟩
      have g7 : decide ((blen N : Int) ≤ fl n) = true := decide_eq_true h7
      have hB : N < 2 ^ (fl n).toNat := blen_lt.1 (by omega)
      have gz := w4_z0 (N := N) hz
      rw [payV_0t (by rw [if_pos hB]; exact hz)] at M3 M4
      obtain ⟨k0, k1, k2, k3⟩ := w4_1
      obtain ⟨u0, u1, u2, u3, u4, u5⟩ := pack_unpack (sg := s) hn M4
      have hPA := packS_lt (sg := s) hn M4
      generalize packS n 3 s true 1 0 = PA at *
      have hVA := V4_w4 hPA
      rotate_left
      have g7 : decide ((blen N : Int) ≤ fl n) = true := decide_eq_true h7
      have hB : N < 2 ^ (fl n).toNat := blen_lt.1 (by omega)
      have gz := w4_z0 (N := N) hz
      rw [payV_0f (by rw [if_pos hB]; exact hz)] at M3 M4
      subst hz
      obtain ⟨u0, u1, u2, u3, u4, u5⟩ := pack_unpack (sg := s) hn M4
      have hPA := packS_lt (sg := s) hn M4
      generalize packS n 3 s false 0 0 = PA at *
      have hVA := V4_w4 hPA
      rotate_left
      have g7 : decide ((blen N : Int) ≤ fl n) = true := decide_eq_true h7
      have hB : N < 2 ^ (fl n).toNat := blen_lt.1 (by omega)
      have gz := w4_zn (N := N) (Nat.lt_of_lt_of_le hB (Nat.pow_le_pow_right (by decide) (by omega))) hz
      rw [payV_x (by rw [if_pos hB]) (.inr hz)] at M3 M4
      obtain ⟨u0, u1, u2, u3, u4, u5⟩ := pack_unpack (sg := s) hn M4
      have hPA := packS_lt (sg := s) hn M4
      generalize packS n 3 s q N 0 = PA at *
      have hVA := V4_w4 hPA
      rotate_left
      have g7 : decide ((blen N : Int) ≤ fl n) = false := decide_eq_false h7
      have hB : ¬ N < 2 ^ (fl n).toNat := fun h => h7 (by have := blen_lt.2 h; omega)
      rw [payV_0t (by rw [if_neg hB])] at M3 M4
      obtain ⟨k0, k1, k2, k3⟩ := w4_1
      obtain ⟨u0, u1, u2, u3, u4, u5⟩ := pack_unpack (sg := s) hn M4
      have hPA := packS_lt (sg := s) hn M4
      generalize packS n 3 s true 1 0 = PA at *
      have hVA := V4_w4 hPA
      rotate_left
      have g7 : decide ((blen N : Int) ≤ fl n) = false := decide_eq_false h7
      have hB : ¬ N < 2 ^ (fl n).toNat := fun h => h7 (by have := blen_lt.2 h; omega)
      rw [payV_0f (by rw [if_neg hB])] at M3 M4
      obtain ⟨u0, u1, u2, u3, u4, u5⟩ := pack_unpack (sg := s) hn M4
      have hPA := packS_lt (sg := s) hn M4
      generalize packS n 3 s false 0 0 = PA at *
      have hVA := V4_w4 hPA
  all_goals repeat' (first
 | ((with_reducible first | (refine ZA ?_; intro X hX) | (refine ZB ?_; intro X hX) | (show awp _ _ _ _ (Kp _ _) _) | refine ZD ?_ | refine ZE ?_ | refine ZF ?_ | ((show Bg _ _ _ _ _); simp only [hall]) | (refine ZR ?_ ?_ <;> intro hb <;> (try simp only [hb]) <;> have hq := hb <;> try simp only [HQ] at hq)) <;> try simp only [Go.AM.SS, Nat.reduceAdd, Nat.reduceMul, Nat.reduceSub, ↓reduceIte, Nat.reduceEqDiff, Nat.reduceLT, Nat.reduceLeDiff, reduceCtorEq, Int.reduceBEq, Int.reduceBNe, Nat.reduceBEq, Int.reduceEq, Int.reduceToNat, Int.reduceLE, Int.reduceLT, Nat.reduceDiv, Int.reduceAdd, Int.reduceSub, Int.reduceMul, Int.reduceNeg, Int.reduceGT, Int.reduceGE, Nat.reduceMod, k11_29, s29.eq_1, s29_eq, k11_31, s31.eq_1, s31_eq, k11_34, s34.eq_1, s34_eq, k11_37, s37.eq_1, s37_eq, k11_42, s42.eq_1, s42_eq, s42_nil1, k11_44, s44.eq_1, s44_eq, k11_46, s46.eq_1, s46_eq, k11_47, s47.eq_1, s47_eq, s47_nil1, k11_48, s48.eq_1, s48_eq, s48_nil1, ty_3, ty_4, ty_9, ty_22, ty_24, ty_26, ty_33, ty_44, ty_50, ty_62, beq_self_eq_true, infoT, w4_0, gk, gR, g3, hx, M1, M2, M3, u0, u1, u2, u3, u4, u5, hVA, hI, g7, e0, e1, e2, e3, gz, k0, k1, k2, k3, bs_lit, bs_app, Bz, bs_beq, Bi, Bd, Be, bt_bs, List.length_append, List.append_nil, List.nil_append, List.cons_append])
 | with_reducible first
 | (refine hX _ _ ?_; clear hX X)
 | (refine ZG ?_; try clear hall all)
 | (refine ZH ?_; try clear hall all)
 | (refine hK _ _ ?_; clear hK K)
 | refine ZL ?_
 | (refine v_0 _ _ ?_; try clear v_0 V_0)
 | (refine v_1 _ _ ?_; try clear v_1 V_1)
 | ((first | refine qr 12 [10] ?_ | refine Zh (a := .seq (.region 10 _ _) _) [3,4,13,14,15,16,19] ?_ | refine Zh (a := .seq (.region 8 _ _) _) [3,4,13,14,15,16,19] ?_ | refine qr 7 [2,3,4,13,14,15,16,17,19] ?_ | refine qr 6 [2,3,4,13,14,15,16,17] ?_ | refine qr 5 [0,2,3,4,13,14,15,16] ?_ | refine qr 4 [0,2,3,4,12,13,14] ?_ | refine qr 3 [0,1,2,3,4,11] ?_ | refine Zh (a := .seq (.region 1 _ _) _) [0,1,2,3,4] ?_ | refine qr 0 [0,1,2,3,4] ?_); intro V_0 v_0)
 | ((first | refine qr 10 [3,4,13,14,15,16,19,75] ?_ | refine qr 8 [2,3,4,13,14,15,16,19,67] ?_ | refine qr 2 [10] ?_ | refine qr 1 [0,1,2,3,4,36] ?_); intro V_1 v_1)
 | (refine ZM ?_; intro K hK)
 | (refine ZN ?_; intro all hall K hK)
 | (refine ZO ?_ ?_; kernel_rfl; intro all hall K hK)
 | (refine ZQ ?_ ?_)
 | (refine ZK ?_; kernel_rfl)
 | refine ZT ?_ | refine ZU ?_ | refine ZW ?_)
  all_goals try clear v_1 V_1
  all_goals try clear v_0 V_0
  all_goals (try simp only [inR])
  all_goals first
    | omega
    | exact ⟨⟨hp.1, by omega⟩, hN9⟩
    | exact ⟨hp.1, by omega⟩
    | exact ⟨Wl _ _, Wl _ _, Wl _ _, Wl _ _⟩
    | skip
theorem sound_11 : Sound Tryz.prog 11 .body (norm s11) := by
  refine sb Tryz.func11 rfl (by kernel_rfl) G11_ok (by kernel_rfl) fun ds p r hs hp => ?_
  unfold s11 at hs
  split at hs
  · cases hs; exact ⟨Nat.le_of_ble_eq_true (by kernel_rfl), wk11 _ _ _ _ _ hp⟩
  · cases hs
end Go.Proofs.AMT
