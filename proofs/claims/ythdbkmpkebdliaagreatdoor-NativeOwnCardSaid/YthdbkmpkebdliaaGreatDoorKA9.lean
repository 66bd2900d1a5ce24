/- Part of the proof: own text. -/
import Derived.Test.YthdbkmpkebdliaaGreatDoorKA7
set_option linter.all false
set_option maxHeartbeats 20000000
set_option maxRecDepth 20000
namespace Go.Proofs.AMT
open Go.AM Go.AM.LN
attribute [local congr] bindO_congr bindS_congr bindG_congr awpOps_congr aOne_congr awp_congr aCond_congr awpD_congr dOne_congr keysB_congr nOne_congr thenP_congr blockP_congr Chk_congr Brk_congr
noncomputable def s232 : Cs := fun ds => match ds with
  | [.sl .u64 a, .sl .u64 b] => some ((lim a ∧ a.length ≤ 80000000) ∧ (lim b ∧ b.length ≤ 80000000) ∧ 2 ≤ b.length ∧ NB b, .many [.fresh .u64 (limbs (val a / val b)), .fresh .u64 (limbs (val a % val b))])
  | _ => none
theorem s232_eq (a : List Int) (b : List Int) : norm s232 [.sl .u64 a, .sl .u64 b] = s232 [.sl .u64 a, .sl .u64 b] := rfl
theorem s232_nil1  (b : List Int) : norm s232 [.v (.slice none 0 0), .sl .u64 b] = s232 [.sl .u64 [], .sl .u64 b] := rfl
theorem s232_nil2 (a : List Int)  : norm s232 [.sl .u64 a, .v (.slice none 0 0)] = s232 [.sl .u64 a, .sl .u64 []] := rfl
theorem s232_nil3   : norm s232 [.v (.slice none 0 0), .v (.slice none 0 0)] = s232 [.sl .u64 [], .sl .u64 []] := rfl
noncomputable def G232 : Gam := [(106, .body, norm s106), (107, .ext, sAdd64), (153, .ext, sSub64), (176, .body, norm s176), (192, .body, norm sClone), (193, .body, norm s193)]
theorem G232_ok : Gk Tryz.prog G232 := Gc sound_106 (Gc ext_107 (Gc ext_153 (Gc sound_176 (Gc clone_n (Gc sound_193 Gn)))))
theorem k232_106 : lk G232 106 = some (.body, norm s106) := rfl
theorem k232_107 : lk G232 107 = some (.ext, sAdd64) := rfl
theorem k232_153 : lk G232 153 = some (.ext, sSub64) := rfl
theorem k232_176 : lk G232 176 = some (.body, norm s176) := rfl
theorem k232_192 : lk G232 192 = some (.body, norm sClone) := rfl
theorem k232_193 : lk G232 193 = some (.body, norm s193) := rfl
theorem wk232 (a : List Int) (b : List Int) (hp : (lim a ∧ a.length ≤ 80000000) ∧ (lim b ∧ b.length ≤ 80000000) ∧ 2 ≤ b.length ∧ NB b) : awp ty G232 (code Tryz.f232) (retP ty Tryz.f232.results.toList (.many [.fresh .u64 (limbs (val a / val b)), .fresh .u64 (limbs (val a % val b))])) (entry 0 [.sl .u64 a, .sl .u64 b]) [] := by
  unfold code
  simp only [Tryz.f232, Option.getD_some]
  have mE : max (((a.length + 1 : Nat) : Int) - (b.length : Int)) 0 = ((a.length + 1 - b.length : Nat) : Int) := by omega
  have mT : (((a.length + 1 - b.length : Nat) : Int)).toNat = a.length + 1 - b.length := by omega
  all_goals repeat' (first
 | ((with_reducible first | (refine ZA ?_; intro X hX) | (refine ZB ?_; intro X hX) | (show awp _ _ _ _ (Kp _ _) _) | refine ZD ?_ | refine ZE ?_ | refine ZF ?_ | ((show Bg _ _ _ _ _); simp only [hall]) | (refine ZR ?_ ?_ <;> intro hb <;> (try simp only [hb]) <;> have hq := hb <;> try simp only [HQ] at hq)) <;> try simp only [Go.AM.SS, Nat.reduceAdd, Nat.reduceMul, Nat.reduceSub, ↓reduceIte, Nat.reduceEqDiff, Nat.reduceLT, Nat.reduceLeDiff, reduceCtorEq, Int.reduceBEq, Int.reduceBNe, Nat.reduceBEq, Int.reduceEq, Int.reduceToNat, Int.reduceLE, Int.reduceLT, Nat.reduceDiv, Int.reduceAdd, Int.reduceSub, Int.reduceMul, Int.reduceNeg, Int.reduceGT, Int.reduceGE, Nat.reduceMod, k232_106, s106.eq_1, s106_eq, k232_107, sAdd64_eq, k232_153, sSub64_eq, k232_176, s176.eq_1, s176_eq, k232_192, sClone_eq, sClone_nil, k232_193, s193.eq_1, s193_eq, s193_nil1, ty_3, ty_22, ty_50, aOne_append, bindP_some, spAppend, intSl, yInts, killE, namesT, names, List.map_cons, List.map_nil, toInts, List.length_append, List.length_replicate, mE, mT])
 | with_reducible first
 | (refine hX _ _ ?_; clear hX X)
 | (refine ZG ?_; try clear hall all)
 | (refine ZH ?_; try clear hall all)
 | (refine hK _ _ ?_; clear hK K)
 | refine ZL ?_
 | (refine v_0 _ _ ?_; try clear v_0 V_0)
 | (refine v_1 _ _ ?_; try clear v_1 V_1)
 | (refine v_2 _ _ ?_; try clear v_2 V_2)
 | (refine v_3 _ _ ?_; try clear v_3 V_3)
 | (refine v_4 _ _ ?_; try clear v_4 V_4)
 | (refine v_5 _ _ ?_; try clear v_5 V_5)
    | (with_reducible refine awp_seq_j (a := .seq (.region 8 _ _) _) (ι := {g : Nat // g < 18446744073709551616 ∧ QL s.2.1 b s.1 g}) (fun g => [(1, .rd .u64 b), (6, .v (.int .i64 b.length)), (7, .ow 448), (8, .ow 576), (9, .v (.int .i64 ((s.1 : Int) - 1))), (10, .v (.int .u64 g.1))]) (fun _ => [(448, .ints .u64 s.2.1, false), (576, .ints .u64 s.2.2, false)]) (fun ⟨g, hg⟩ => ?_) ?_; rotate_left; intro Kj hj8)
    | (with_reducible refine awp_seq_j (a := .region 27 _ _) (ι := {t : Nat × List Int // (t.1 ≤ 1 ∧ t.2.length = a.length + 1) ∧ LY s.2.1 b s.1 g t.1 t.2}) (fun t => [(1, .rd .u64 b), (6, .v (.int .i64 b.length)), (7, .ow 448), (8, .ow 576), (9, .v (.int .i64 ((s.1 : Int) - 1))), (10, .v (.int .u64 g)), (16, .v (.int .u64 t.1.1))]) (fun t => [(448, .ints .u64 t.1.2, false), (576, .ints .u64 s.2.2, false)]) (fun ⟨t, ht⟩ => ?_) ?_; rotate_left; intro Kj hj27)
    | (with_reducible refine awp_lp (c := .seq (.seq (.region 5 _ _) _) _) (σ := Nat × List Int × List Int) (fun s => (s.1 ≤ a.length + 1 - b.length ∧ s.2.1.length = a.length + 1 ∧ s.2.2.length = a.length + 1 - b.length) ∧ LO a b s.2.1 s.2.2 s.1) (fun s => [(1, .rd .u64 b), (6, .v (.int .i64 b.length)), (7, .ow 448), (8, .ow 576), (9, .v (.int .i64 ((s.1 : Int) - 1)))]) (fun s => [(448, .ints .u64 s.2.1, false), (576, .ints .u64 s.2.2, false)]) (fun s => s.1) (a.length + 1 - b.length, a ++ [0], List.replicate (a.length + 1 - b.length) 0) ?_ ?_ (fun s hs => ?_))
    | (with_reducible refine awp_lp (c := .block 3 _) (σ := Nat × Nat) (fun z => (z.1 < 18446744073709551616 ∧ z.2 < 18446744073709551616) ∧ LG s.2.1 b s.1 z.1 z.2) (fun z => [(1, .rd .u64 b), (6, .v (.int .i64 b.length)), (7, .ow 448), (8, .ow 576), (9, .v (.int .i64 ((s.1 : Int) - 1))), (10, .v (.int .u64 z.1)), (11, .v (.int .u64 z.2))]) (fun z => [(448, .ints .u64 s.2.1, false), (576, .ints .u64 s.2.2, false)]) (fun z => z.1) (((s.2.1.getD (s.1 - 1 + b.length) 0).toNat * 18446744073709551616 + (s.2.1.getD (s.1 - 1 + b.length - 1) 0).toNat) / (b.getD (b.length - 1) 0).toNat, ((s.2.1.getD (s.1 - 1 + b.length) 0).toNat * 18446744073709551616 + (s.2.1.getD (s.1 - 1 + b.length - 1) 0).toNat) % (b.getD (b.length - 1) 0).toNat) ?_ ?_ (fun z hz => ?_))
    | (with_reducible refine awp_lp (c := .seq (.region 19 _ _) _) (σ := Nat × Nat × Nat × List Int) (fun e => (e.1 ≤ b.length ∧ e.2.1 < 18446744073709551616 ∧ e.2.2.1 ≤ 1 ∧ e.2.2.2.length = a.length + 1) ∧ LM s.2.1 b s.1 g e.1 e.2.1 e.2.2.1 e.2.2.2) (fun e => [(1, .rd .u64 b), (6, .v (.int .i64 b.length)), (7, .ow 448), (8, .ow 576), (9, .v (.int .i64 ((s.1 : Int) - 1))), (10, .v (.int .u64 g)), (15, .v (.int .u64 e.2.1)), (16, .v (.int .u64 e.2.2.1)), (121, .rd .u64 b), (122, .v (.int .i64 b.length)), (123, .v (.int .i64 e.1))]) (fun e => [(448, .ints .u64 e.2.2.2, false), (576, .ints .u64 s.2.2, false)]) (fun e => b.length - e.1) (0, 0, 0, s.2.1) ?_ ?_ (fun e he => ?_))
    | (with_reducible refine awp_lp (c := .seq (.seq (.region 28 _ _) _) _) (σ := Nat × Nat × List Int) (fun y => (y.1 < 18446744073709551616 ∧ y.2.1 ≤ 1 ∧ y.2.2.length = a.length + 1) ∧ LY s.2.1 b s.1 y.1 y.2.1 y.2.2) (fun y => [(1, .rd .u64 b), (6, .v (.int .i64 b.length)), (7, .ow 448), (8, .ow 576), (9, .v (.int .i64 ((s.1 : Int) - 1))), (10, .v (.int .u64 y.1)), (16, .v (.int .u64 y.2.1))]) (fun y => [(448, .ints .u64 y.2.2, false), (576, .ints .u64 s.2.2, false)]) (fun y => y.1) (g, t) ?_ ?_ (fun y hy => ?_))
    | (with_reducible refine awp_lp (c := .seq (.region 32 _ _) _) (σ := Nat × Nat × List Int) (fun x => (x.1 ≤ b.length ∧ x.2.1 ≤ 1 ∧ x.2.2.length = a.length + 1) ∧ LX y.2.2 b s.1 x.1 x.2.1 x.2.2) (fun x => [(1, .rd .u64 b), (6, .v (.int .i64 b.length)), (7, .ow 448), (8, .ow 576), (9, .v (.int .i64 ((s.1 : Int) - 1))), (10, .v (.int .u64 ((y.1 : Int) - 1))), (16, .v (.int .u64 y.2.1)), (22, .v (.int .u64 x.2.1)), (182, .rd .u64 b), (183, .v (.int .i64 b.length)), (184, .v (.int .i64 x.1))]) (fun x => [(448, .ints .u64 x.2.2, false), (576, .ints .u64 s.2.2, false)]) (fun x => b.length - x.1) (0, 0, y.2.2) ?_ ?_ (fun x hx => ?_))
 | ((first | refine qr 39 [4,5] ?_ | refine Zh (a := .seq (.region 4 _ _) _) [6,7,8] ?_ | refine qr 3 [1,6,7,8] ?_ | refine qr 2 [1,6,7] ?_ | refine qr 1 [0,1,6] ?_ | refine qr 0 [0,1] ?_); intro V_0 v_0)
 | ((first | refine qb 1 [1,6,7,8,9] ?_ | refine Zh (a := .seq (.region 5 _ _) _) [1,6,7,8,9] ?_ | refine qr 4 [1,6,7,8,9] ?_); intro V_1 v_1)
 | ((first | refine qb 6 [1,6,7,8,9,10] ?_ | refine qr 27 [1,6,7,8,9,10,16] ?_ | refine Zh (a := .seq (.region 18 _ _) _) [1,6,7,8,9,10,15,16] ?_ | refine qr 17 [1,6,7,8,9,10,15,16] ?_ | refine Zh (a := .seq (.region 8 _ _) _) [1,6,7,8,9,10] ?_ | refine qr 7 [1,6,7,8,9,10] ?_ | refine qr 5 [1,6,7,8,9,41] ?_); intro V_2 v_2)
 | ((first | refine qr 36 [1,6,7,8,9,10,16,22] ?_ | refine Zh (a := .seq (.region 31 _ _) _) [1,6,7,8,9,10,16,22] ?_ | refine qr 30 [1,6,7,8,9,10,16,22] ?_ | refine qr 29 [1,6,7,8,9,10,16] ?_ | refine Zh (a := .seq (.region 28 _ _) _) [1,6,7,8,9,10,16] ?_ | refine qb 5 [1,6,7,8,9,10,15,16,121,122,123] ?_ | refine Zh (a := .cond (.tmp 124) _ _) [1,6,7,8,9,10,15,16,121,122,123] ?_ | refine qr 19 [1,6,7,8,9,10,15,16,121,122,123,124] ?_ | refine qr 18 [1,6,7,8,9,10,15,16,121,122,123] ?_ | refine qr 16 [1,6,7,8,9,10,11,120] ?_ | refine qr 15 [1,6,7,8,9,10,11,14] ?_ | refine qr 14 [1,6,7,8,9,10,11] ?_ | refine qr 13 [1,6,7,8,9,10,11] ?_ | refine Zh (a := .seq (.region 12 _ _) _) [1,6,7,8,9,10,11] ?_ | refine qr 11 [1,6,7,8,9,10,11,12,13] ?_ | refine qr 10 [1,6,7,8,9,10,11] ?_ | refine qr 9 [1,6,7,8,9] ?_ | refine qr 8 [1,6,7,8,9,10,55] ?_); intro V_3 v_3)
 | ((first | refine qb 9 [1,6,7,8,9,10,16,22,182,183,184] ?_ | refine Zh (a := .cond (.tmp 185) _ _) [1,6,7,8,9,10,16,22,182,183,184] ?_ | refine qr 32 [1,6,7,8,9,10,16,22,182,183,184,185] ?_ | refine qr 31 [1,6,7,8,9,10,16,22,182,183,184] ?_ | refine qr 28 [1,6,7,8,9,10,16,179] ?_ | refine qr 24 [1,6,7,8,9,10,15,16,17,20,121,122,123] ?_ | refine qr 23 [1,6,7,8,9,10,16,17,19,20,21,121,122,123] ?_ | refine qr 22 [1,6,7,8,9,10,15,16,17,19,20,121,122,123] ?_ | refine qr 21 [1,6,7,8,9,10,15,16,17,19,20,121,122,123] ?_ | refine qr 20 [1,6,7,8,9,10,15,16,17,18,121,122,123] ?_ | refine qr 12 [1,6,7,8,9,10,11,106] ?_); intro V_4 v_4)
 | ((first | refine qr 33 [1,6,7,8,9,10,16,22,23,24,182,183,184] ?_); intro V_5 v_5)
 | (refine ZM ?_; intro K hK)
 | (refine ZN ?_; intro all hall K hK)
 | (refine ZO ?_ ?_; kernel_rfl; intro all hall K hK)
 | (refine ZQ ?_ ?_)
 | (refine ZK ?_; kernel_rfl)
 | (refine Zg ?_; simp only [↓reduceIte, Nat.reduceEqDiff])
 | refine ZS ?_ | refine ZT ?_ | refine ZU ?_ | refine ZV ?_ | refine ZW ?_ | refine ZX ?_ | refine ZY ?_ | refine ZZ ?_ | refine Za ?_ | refine Ze ?_ | refine Zf ?_)
  all_goals try clear v_5 V_5
  all_goals try clear v_4 V_4
  all_goals try clear v_3 V_3
  all_goals try clear v_2 V_2
  all_goals try clear v_1 V_1
  all_goals try clear v_0 V_0
  all_goals (try simp only [inR])
  all_goals clear mE mT
  all_goals (obtain ⟨⟨la, pa⟩, ⟨lb, pb⟩, p2, hB⟩ := hp)
  all_goals (try (rcases x with ⟨xi, xc, xu⟩))
  all_goals (try (rcases y with ⟨yg, yw, yu⟩))
  all_goals (try (rcases e with ⟨ei, ec, ew, eu⟩))
  all_goals (try (rcases z with ⟨zg, zr⟩))
  all_goals (try (rcases s with ⟨k, u, q⟩))
  all_goals (try (rcases t with ⟨tw, tu⟩))
  all_goals (try (obtain ⟨xx, hx⟩ := hx))
  all_goals (try (obtain ⟨yy, hy⟩ := hy))
  all_goals (try (obtain ⟨ee, he⟩ := he))
  all_goals (try (obtain ⟨zz, hz⟩ := hz))
  all_goals (try (obtain ⟨tt, ht⟩ := ht))
  all_goals (try (obtain ⟨gg, hg⟩ := hg))
  all_goals (try (obtain ⟨ss, hs⟩ := hs))
  all_goals (try dsimp only at *)
  all_goals first
    | omega
    | with_reducible exact Ent.refl _ _
    | (have hk1 : 1 ≤ k := by omega
       have e1 : ((k : Int) - 1 + (b.length : Int)).toNat = k - 1 + b.length := by omega
       have e2 : ((k : Int) - 1 + (b.length : Int) - 1).toNat = k - 1 + b.length - 1 := by omega
       have e3 : ((b.length : Int) - 1).toNat = b.length - 1 := by omega
       have e4 : ((k : Int) - 1 + (b.length : Int) - 2).toNat = k - 1 + b.length - 2 := by omega
       have e5 : ((b.length : Int) - 2).toNat = b.length - 2 := by omega
       simp only [e1, e2, e3, e4, e5] at *
       clear e1 e2 e3 e4 e5)
    | skip
  · exact ⟨⟨Nat.le_refl _, by simp, by simp⟩, lo_init la p2 hB⟩
  · (refine Eo [(448, 448), (576, 576)] rfl ?_ ?_ <;> simp only [Me, Sl, AvLe, lk, ↓reduceIte, Nat.reduceEqDiff, Option.isSome_some, and_self, and_true, true_and, reduceCtorEq, List.map_nil, List.map_cons, Option.some.injEq, AV.v.injEq, Value.int.injEq, Value.bool.injEq, AV.rd.injEq, AV.ow.injEq, AV.al.injEq, AV.ref.injEq] <;> omega)
  · exact ⟨⟨(Mg hs.lu).1, by omega⟩, Mg hs.lu, by have := Mg hs.lu (i := k - 1 + b.length); omega, (Mg lb).2⟩
  · exact lg_init hs hk1 lb p2 hB (by omega)
  · (refine Eo [(448, 448), (576, 576)] rfl ?_ ?_ <;> simp only [Me, Sl, AvLe, lk, ↓reduceIte, Nat.reduceEqDiff, Option.isSome_some, and_self, and_true, true_and, reduceCtorEq, List.map_nil, List.map_cons, Option.some.injEq, AV.v.injEq, Value.int.injEq, Value.bool.injEq, AV.rd.injEq, AV.ow.injEq, AV.al.injEq, AV.ref.injEq] <;> omega)
  · exact ⟨⟨by omega, by omega⟩, Mg lb⟩
  · exact hj8 _ _ ⟨zg, zz.1, hz.ql⟩ (by (refine Eo [(448, 448), (576, 576)] rfl ?_ ?_ <;> simp only [Me, Sl, AvLe, lk, ↓reduceIte, Nat.reduceEqDiff, Option.isSome_some, and_self, and_true, true_and, reduceCtorEq, List.map_nil, List.map_cons, Option.some.injEq, AV.v.injEq, Value.int.injEq, Value.bool.injEq, AV.rd.injEq, AV.ow.injEq, AV.al.injEq, AV.ref.injEq] <;> omega))
  · exact ⟨by omega, (Mg lb).1⟩
  · have h4 := Mg hs.lu (i := k - 1 + b.length - 2)
    have h5 := Mg lb (i := b.length - 2)
    have h6 := Mg lb (i := b.length - 1)
    obtain ⟨d1, d2⟩ := lg_dec hs hk1 lb p2 hB hz (by omega)
    exact hj8 _ _ ⟨zg - 1, by omega, d2.ql⟩ (by (refine Eo [(448, 448), (576, 576)] rfl ?_ ?_ <;> simp only [Me, Sl, AvLe, lk, ↓reduceIte, Nat.reduceEqDiff, Option.isSome_some, and_self, and_true, true_and, reduceCtorEq, List.map_nil, List.map_cons, Option.some.injEq, AV.v.injEq, Value.int.injEq, Value.bool.injEq, AV.rd.injEq, AV.ow.injEq, AV.al.injEq, AV.ref.injEq] <;> omega))
  · have h4 := Mg hs.lu (i := k - 1 + b.length - 2)
    have h5 := Mg lb (i := b.length - 2)
    have h6 := Mg lb (i := b.length - 1)
    obtain ⟨d1, d2⟩ := lg_dec hs hk1 lb p2 hB hz (by omega)
    exact ⟨(zg - 1, zr + (b.getD (b.length - 1) 0).toNat), (by (refine Eo [(448, 448), (576, 576)] rfl ?_ ?_ <;> simp only [Me, Sl, AvLe, lk, ↓reduceIte, Nat.reduceEqDiff, Option.isSome_some, and_self, and_true, true_and, reduceCtorEq, List.map_nil, List.map_cons, Option.some.injEq, AV.v.injEq, Value.int.injEq, Value.bool.injEq, AV.rd.injEq, AV.ow.injEq, AV.al.injEq, AV.ref.injEq] <;> omega)), ⟨⟨by dsimp only; omega, by dsimp only; omega⟩, d2⟩, by dsimp only; omega⟩
  · exact ⟨by omega, (Mg lb).1⟩
  · have h4 := Mg hs.lu (i := k - 1 + b.length - 2)
    have h5 := Mg lb (i := b.length - 2)
    have h6 := Mg lb (i := b.length - 1)
    obtain ⟨d1, d2⟩ := lg_dec hs hk1 lb p2 hB hz (by omega)
    exact hj8 _ _ ⟨zg - 1, by omega, d2.ql⟩ (by (refine Eo [(448, 448), (576, 576)] rfl ?_ ?_ <;> simp only [Me, Sl, AvLe, lk, ↓reduceIte, Nat.reduceEqDiff, Option.isSome_some, and_self, and_true, true_and, reduceCtorEq, List.map_nil, List.map_cons, Option.some.injEq, AV.v.injEq, Value.int.injEq, Value.bool.injEq, AV.rd.injEq, AV.ow.injEq, AV.al.injEq, AV.ref.injEq] <;> omega))
  · have h4 := Mg hs.lu (i := k - 1 + b.length - 2)
    have h5 := Mg lb (i := b.length - 2)
    have h6 := Mg lb (i := b.length - 1)
    obtain ⟨d1, d2⟩ := lg_dec hs hk1 lb p2 hB hz (by omega)
    exact ⟨(zg - 1, zr + (b.getD (b.length - 1) 0).toNat), (by (refine Eo [(448, 448), (576, 576)] rfl ?_ ?_ <;> simp only [Me, Sl, AvLe, lk, ↓reduceIte, Nat.reduceEqDiff, Option.isSome_some, and_self, and_true, true_and, reduceCtorEq, List.map_nil, List.map_cons, Option.some.injEq, AV.v.injEq, Value.int.injEq, Value.bool.injEq, AV.rd.injEq, AV.ow.injEq, AV.al.injEq, AV.ref.injEq] <;> omega)), ⟨⟨by dsimp only; omega, by dsimp only; omega⟩, d2⟩, by dsimp only; omega⟩
  · exact hj8 _ _ ⟨zg, zz.1, hz.ql⟩ (by (refine Eo [(448, 448), (576, 576)] rfl ?_ ?_ <;> simp only [Me, Sl, AvLe, lk, ↓reduceIte, Nat.reduceEqDiff, Option.isSome_some, and_self, and_true, true_and, reduceCtorEq, List.map_nil, List.map_cons, Option.some.injEq, AV.v.injEq, Value.int.injEq, Value.bool.injEq, AV.rd.injEq, AV.ow.injEq, AV.al.injEq, AV.ref.injEq] <;> omega))
  · exact hj8 _ _ ⟨18446744073709551615, by omega, ql_top hs hk1 lb p2 hB⟩ (by (refine Eo [(448, 448), (576, 576)] rfl ?_ ?_ <;> simp only [Me, Sl, AvLe, lk, ↓reduceIte, Nat.reduceEqDiff, Option.isSome_some, and_self, and_true, true_and, reduceCtorEq, List.map_nil, List.map_cons, Option.some.injEq, AV.v.injEq, Value.int.injEq, Value.bool.injEq, AV.rd.injEq, AV.ow.injEq, AV.al.injEq, AV.ref.injEq] <;> omega))
  · exact ⟨⟨Nat.zero_le _, by omega, by omega, by omega⟩, lm_init hs.lu⟩
  · (refine Eo [(448, 448), (576, 576)] rfl ?_ ?_ <;> simp only [Me, Sl, AvLe, lk, ↓reduceIte, Nat.reduceEqDiff, Option.isSome_some, and_self, and_true, true_and, reduceCtorEq, List.map_nil, List.map_cons, Option.some.injEq, AV.v.injEq, Value.int.injEq, Value.bool.injEq, AV.rd.injEq, AV.ow.injEq, AV.al.injEq, AV.ref.injEq] <;> omega)
  · exact ⟨⟨by omega, by omega⟩, Mg lb⟩
  · have e6 : ((k : Int) - 1 + (ei : Int)).toNat = k - 1 + ei := by omega
    have h4 := Mg he.lu (i := k - 1 + ei)
    rw [e6]
    omega
  · have e6 : ((k : Int) - 1 + (ei : Int)).toNat = k - 1 + ei := by omega
    have h4 := Mg he.lu (i := k - 1 + ei)
    rw [e6]
    obtain ⟨c', w', s', f1, f2, f3, f4, f5, f6, f7⟩ := sub_word (pr := g * (b.getD ei 0).toNat) (c := ec) (w := ew) (x := eu.getD (k - 1 + ei) 0) (prod_le gg (by have := Mg lb (i := ei); omega)) (by omega) (by omega) h4
    rw [f1, f2, f3]
    exact ⟨(ei + 1, c', w', eu.set (k - 1 + ei) (s' : Int)), (by (refine Eo [(448, 448), (576, 576)] rfl ?_ ?_ <;> simp only [Me, Sl, AvLe, lk, ↓reduceIte, Nat.reduceEqDiff, Option.isSome_some, and_self, and_true, true_and, reduceCtorEq, List.map_nil, List.map_cons, Option.some.injEq, AV.v.injEq, Value.int.injEq, Value.bool.injEq, AV.rd.injEq, AV.ow.injEq, AV.al.injEq, AV.ref.injEq] <;> omega)), ⟨⟨by dsimp only; omega, f5, f6, by simp; omega⟩, lm_step he (by omega) f7 f4⟩, by dsimp only; omega⟩
  · have h4 := Mg he.lu (i := k - 1 + b.length)
    omega
  · have h4 := Mg he.lu (i := k - 1 + b.length)
    have hei : ei = b.length := by omega
    subst hei
    obtain ⟨w', s', f1, f2, f3, f4, f5⟩ := sub_last (c := ec) (w := ew) (x := eu.getD (k - 1 + b.length) 0) (by omega) (by omega) h4
    rw [f1, f2]
    exact hj27 _ _ ⟨(w', eu.set (k - 1 + b.length) (s' : Int)), ⟨f4, by simp; omega⟩, lm_last he hg (by omega) f5 f3⟩ (by (refine Eo [(448, 448), (576, 576)] rfl ?_ ?_ <;> simp only [Me, Sl, AvLe, lk, ↓reduceIte, Nat.reduceEqDiff, Option.isSome_some, and_self, and_true, true_and, reduceCtorEq, List.map_nil, List.map_cons, Option.some.injEq, AV.v.injEq, Value.int.injEq, Value.bool.injEq, AV.rd.injEq, AV.ow.injEq, AV.al.injEq, AV.ref.injEq] <;> omega))
  · exact ⟨⟨gg, tt.1, tt.2⟩, ht⟩
  · exact ⟨⟨Nat.zero_le _, by omega, by omega⟩, lx_init hy.lu⟩
  · have hyw : yw = 1 := by omega
    subst hyw
    have h6 := ly_pos hs hk1 lb p2 hB hy
    (refine Eo [(448, 448), (576, 576)] rfl ?_ ?_ <;> simp only [Me, Sl, AvLe, lk, ↓reduceIte, Nat.reduceEqDiff, Option.isSome_some, and_self, and_true, true_and, reduceCtorEq, List.map_nil, List.map_cons, Option.some.injEq, AV.v.injEq, Value.int.injEq, Value.bool.injEq, AV.rd.injEq, AV.ow.injEq, AV.al.injEq, AV.ref.injEq] <;> omega)
  · have e6 : ((k : Int) - 1 + (xi : Int)).toNat = k - 1 + xi := by omega
    have h4 := Mg hx.lu (i := k - 1 + xi)
    have h5 := Mg lb (i := xi)
    rw [e6]
    omega
  · have e6 : ((k : Int) - 1 + (xi : Int)).toNat = k - 1 + xi := by omega
    have h4 := Mg hx.lu (i := k - 1 + xi)
    have h5 := Mg lb (i := xi)
    rw [e6]
    obtain ⟨c', s', f1, f2, f3, f4, f5⟩ := add_word (c := xc) (by omega) h4 h5
    rw [f1, f2]
    exact ⟨(xi + 1, c', xu.set (k - 1 + xi) (s' : Int)), (by (refine Eo [(448, 448), (576, 576)] rfl ?_ ?_ <;> simp only [Me, Sl, AvLe, lk, ↓reduceIte, Nat.reduceEqDiff, Option.isSome_some, and_self, and_true, true_and, reduceCtorEq, List.map_nil, List.map_cons, Option.some.injEq, AV.v.injEq, Value.int.injEq, Value.bool.injEq, AV.rd.injEq, AV.ow.injEq, AV.al.injEq, AV.ref.injEq] <;> omega)), ⟨⟨by dsimp only; omega, f4, by simp; omega⟩, lx_step hx (by omega) f5 f3⟩, by dsimp only; omega⟩
  · have h4 := Mg hx.lu (i := k - 1 + b.length)
    omega
  · have h4 := Mg hx.lu (i := k - 1 + b.length)
    have hxi : xi = b.length := by omega
    subst hxi
    have hyw : yw = 1 := by omega
    subst hyw
    obtain ⟨c', s', f1, f2, f3, f4, f5⟩ := add_word (c := xc) (y := 0) (by omega) h4 ⟨by omega, by omega⟩
    have h6 := ly_pos hs hk1 lb p2 hB hy
    rw [f1, f2]
    exact ⟨(yg - 1, 1 - c', xu.set (k - 1 + b.length) (s' : Int)), (by (refine Eo [(448, 448), (576, 576)] rfl ?_ ?_ <;> simp only [Me, Sl, AvLe, lk, ↓reduceIte, Nat.reduceEqDiff, Option.isSome_some, and_self, and_true, true_and, reduceCtorEq, List.map_nil, List.map_cons, Option.some.injEq, AV.v.injEq, Value.int.injEq, Value.bool.injEq, AV.rd.injEq, AV.ow.injEq, AV.al.injEq, AV.ref.injEq] <;> omega)), ⟨⟨by dsimp only; omega, by dsimp only; omega, by simp; omega⟩, lx_last hs hk1 lb p2 hB hy hx (by omega) f5 f4 f3⟩, by dsimp only; omega⟩
  · have hyw : yw = 0 := by omega
    subst hyw
    have e8 : ((k : Int) - 1).toNat = k - 1 := by omega
    rw [e8]
    exact ⟨(k - 1, yu, q.set (k - 1) (yg : Int)), (by (refine Eo [(448, 448), (576, 576)] rfl ?_ ?_ <;> simp only [Me, Sl, AvLe, lk, ↓reduceIte, Nat.reduceEqDiff, Option.isSome_some, and_self, and_true, true_and, reduceCtorEq, List.map_nil, List.map_cons, Option.some.injEq, AV.v.injEq, Value.int.injEq, Value.bool.injEq, AV.rd.injEq, AV.ow.injEq, AV.al.injEq, AV.ref.injEq] <;> omega)), ⟨⟨by dsimp only; omega, by dsimp only; omega, by simp; omega⟩, lo_next hs hk1 lb p2 hB yy.1 hy (by omega)⟩, by dsimp only; omega⟩
  · have h6 := sz_le q
    omega
  · rw [List.length_take]; omega
  · have h6 := sz_le (List.take (min (b.length : Int) (u.length : Int)).toNat u)
    rw [List.length_take] at h6
    omega
  · have hk0 : k = 0 := by omega
    subst hk0
    obtain ⟨r1, r2, r3⟩ := lo_fin hs lb hB
    have e : sz (List.take (min (b.length : Int) (u.length : Int)).toNat u) = sz u := by
      by_cases h : b.length ≤ u.length
      · rw [show (min (b.length : Int) (u.length : Int)).toNat = b.length by omega]; exact r3
      · rw [show (min (b.length : Int) (u.length : Int)).toNat = u.length by omega, List.take_length]
    rw [e, Ts hs.lq, Ts hs.lu, r1, r2]
    all_goals exact ⟨rfl, rfl⟩
theorem sound_232 : Sound Tryz.prog 232 .body (norm s232) := by
  refine sb Tryz.func232 rfl (by kernel_rfl) G232_ok (by kernel_rfl) fun ds p r hs hp => ?_
  unfold s232 at hs
  split at hs
  · cases hs; exact ⟨Nat.le_of_ble_eq_true (by kernel_rfl), wk232 _ _ hp⟩
  · cases hs
end Go.Proofs.AMT
