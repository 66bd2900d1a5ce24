/- Part of the proof: own text. -/
import Derived.Test.YthdbkmpkebdliaaGreatDoorKH0
set_option linter.all false
set_option maxHeartbeats 20000000
set_option maxRecDepth 20000
namespace Go.AM.LN
open Go Go.Lib
theorem fields_back {V A B : Nat} (hA : 0 < A) (h : V < A * B * 2) : V = V % A + V / A % B * A + (if (V / (A * B) % 2 == 1) = true then A * B else 0) := by
  have h1 : V / (A * B) < 2 := by
    refine Nat.div_lt_of_lt_mul ?_
    exact h
  have e1 := Nat.div_add_mod V A
  have e2 := Nat.div_add_mod (V / A) B
  have e3 : V / A / B = V / (A * B) := Nat.div_div_eq_div_mul V A B
  rw [e3] at e2
  have e4 : A * (V / A) = A * (B * (V / (A * B))) + A * (V / A % B) := by rw [← Nat.mul_add, e2]
  clear e2 e3
  generalize V / (A * B) = q at *
  have h2 : q = 0 ∨ q = 1 := by omega
  rcases h2 with h2 | h2
  · rw [h2] at e4 ⊢
    rw [if_neg (by decide), Nat.mul_comm (V / A % B) A]
    rw [Nat.mul_zero, Nat.mul_zero] at e4
    omega
  · rw [h2] at e4 ⊢
    rw [if_pos (by decide), Nat.mul_comm (V / A % B) A]
    rw [Nat.mul_one] at e4
    omega
theorem up_isD {n : Int} {V : Nat} (h : okB n V = true) (hc : uC n V = 1) :
    isD n 1 false (uV n V) (uX n V) ∧ packS n 1 (uS n V) false (uV n V) (uX n V) = V := by
  obtain ⟨hn, hb⟩ := okB_in h
  have F := bfmt hn
  have p8 := F.p8
  have p241 := F.p241
  have x5 := F.x5
  have hw := F.w
  have hee := F.ee
  have hpe : (2 : Int) ^ (fx n).toNat = ((2 ^ (fx n).toNat : Nat) : Int) := by simp
  have hA := Nat.two_pow_pos (fp n - 1).toNat
  have eAB : 2 ^ (fp n - 1 + fx n).toNat = 2 ^ (fp n - 1).toNat * 2 ^ (fx n).toNat := by rw [← Nat.pow_add]; congr 1; omega
  have eW : (fw n - 1).toNat = (fp n - 1 + fx n).toNat := by omega
  have hV : V < 2 ^ (fp n - 1).toNat * 2 ^ (fx n).toNat * 2 := by
    have h1 := (blen_lt (n := V) (k := (fw n).toNat)).1 (by omega)
    refine Nat.lt_of_lt_of_le h1 (Nat.le_of_eq ?_)
    rw [← Nat.pow_add, ← Nat.pow_succ]; congr 1; omega
  have hback := fields_back hA hV
  have hs : uS n V = (V / (2 ^ (fp n - 1).toNat * 2 ^ (fx n).toNat) % 2 == 1) := by unfold uS; rw [eW, eAB]
  rw [← hs] at hback
  have hF : uF n V < 2 ^ (fp n - 1).toNat := Nat.mod_lt _ hA
  have hEl : (uE n V : Int) < 2 ^ (fx n).toNat - 1 := by
    apply Classical.byContradiction
    intro hh
    by_cases h0 : uF n V = 0
    · rw [(u_inf hh h0).1] at hc; exact absurd hc (by decide)
    · rw [(u_nan hh h0).1] at hc; exact absurd hc (by decide)
  obtain ⟨_, _, u3, u4⟩ := u_num hEl
  have hbF : uF n V + uE n V * 2 ^ (fp n - 1).toNat + (if uS n V = true then 2 ^ (fp n - 1 + fx n).toNat else 0) = V := by rw [eAB]; exact hback.symm
  rw [u3, u4]
  by_cases h0 : uE n V = 0
  · rw [if_pos h0]
    have hbl : blen (uF n V) ≤ (fp n - 1).toNat := blen_lt.2 hF
    have hD : isD n 1 false (uF n V) (2 - fe n - fp n + max ((uE n V : Int) - 1) 0) := .inl ⟨rfl, rfl, by omega, by have := F.e15; omega, .inr ⟨by omega, by omega⟩⟩
    refine ⟨hD, ?_⟩
    rw [packS_c1d hn hD (by omega)]
    rw [h0, Nat.zero_mul, Nat.add_zero] at hbF
    exact hbF
  · rw [if_neg h0]
    have hlt : 2 ^ (fp n - 1).toNat < 2 ^ 256 := Nat.pow_lt_pow_right (by omega) (by omega)
    have hor : uF n V ||| 1 * 2 ^ (fp n - 1).toNat % 2 ^ 256 = uF n V + 2 ^ (fp n - 1).toNat := by
      have := or_add (X := uF n V) (Y := 1) hF
      rw [Nat.one_mul] at this ⊢
      rw [Nat.mod_eq_of_lt hlt]; exact this
    rw [hor]
    have hbl : blen (uF n V + 2 ^ (fp n - 1).toNat) = (fp n - 1).toNat + 1 := blen_eq (by omega) (by rw [Nat.pow_succ]; omega)
    have hD : isD n 1 false (uF n V + 2 ^ (fp n - 1).toNat) (2 - fe n - fp n + max ((uE n V : Int) - 1) 0) := .inl ⟨rfl, rfl, by omega, by omega, .inl (by rw [hbl]; omega)⟩
    refine ⟨hD, ?_⟩
    rw [packS_c1n hn hD (by rw [hbl]; omega), Nat.add_mod_right, Nat.mod_eq_of_lt hF]
    rw [show (2 - fe n - fp n + max ((uE n V : Int) - 1) 0 - (2 - fe n - fp n) + 1).toNat = uE n V by omega]
    exact hbF
def layT (sg : Bool) (S : List UInt8) (e : Int) : List UInt8 :=
  (if sg then [45] else []) ++ (S.take 1 ++ ((if 1 < S.length then 46 :: S.drop 1 else []) ++ 101 :: itoa (e + S.length - 1)))
theorem gNum_lay (s : Bool) {c : UInt8} {R : List UInt8} {x : Int} (hc : isDg c = true) (hR : R.all isDg = true) (hx : -2000000000 ≤ x ∧ x ≤ 2000000000) :
    gNum s ([c] ++ ((if R = [] then [] else 46 :: R) ++ 101 :: itoa x)) = ⟨1, s, false, bare (c :: R), min (max (x - R.length) (-1000000000)) 1000000000, 0⟩ := by
  obtain ⟨x1, x2⟩ := exp_itoa hx
  have hE : isE (101 :: itoa x) = true := rfl
  by_cases h0 : R = []
  · subst h0
    have h := gNum_dg s (D := [c]) (E := 101 :: itoa x) (by rw [List.all_cons, hc]; rfl) (by simp) (.inr ⟨_, rfl⟩)
    rw [if_neg (by simp), List.drop_succ_cons, List.drop_zero, x1, if_pos rfl, x2] at h
    rw [if_pos rfl, List.nil_append, h]
    simp
  · have hd := gDig_app (l := [c]) (r := 46 :: (R ++ 101 :: itoa x)) (by rw [List.all_cons, hc]; rfl) (fun k hk => by cases hk; decide)
    have hp : hasPrefix (46 :: (R ++ 101 :: itoa x)) [46] = true := rfl
    have hr := gDig_app (l := R) (r := 101 :: itoa x) hR (fun k hk => by cases hk; decide)
    have h3 : gPart (46 :: (R ++ 101 :: itoa x)) = R := by
      unfold gPart
      rw [hp, if_pos rfl, List.drop_succ_cons, List.drop_zero, hr.1]
    have h4 : gRest (46 :: (R ++ 101 :: itoa x)) = 101 :: itoa x := by
      unfold gRest
      rw [hp, if_pos rfl, List.drop_succ_cons, List.drop_zero, hr.2]
    rw [if_neg h0]
    show gNum s ([c] ++ (46 :: (R ++ 101 :: itoa x))) = _
    unfold gNum
    rw [hd.1, hd.2, h3, h4, if_neg (by simp), if_neg (by simp), hE, List.drop_succ_cons, List.drop_zero, x1, x2]
    rfl
theorem layT_len {sg : Bool} {S : List UInt8} {e : Int} (he : -100000000 ≤ e + S.length ∧ e + S.length ≤ 100000000) : (layT sg S e).length ≤ S.length + 25 := by
  have hi := Go.Lib.itoa_length_le (e + S.length - 1) (by omega) (by omega)
  have h1 : ((if sg then [45] else []) : List UInt8).length ≤ 1 := by split <;> simp
  have h2 : (if 1 < S.length then 46 :: S.drop 1 else []).length ≤ S.length := by
    split
    · rw [List.length_cons, List.length_drop]; omega
    · simp
  have h3 : (S.take 1).length ≤ 1 := by rw [List.length_take]; omega
  unfold layT
  simp only [List.length_append, List.length_cons]
  have h4 : (if 1 < S.length then 46 :: S.drop 1 else []).length + (S.take 1).length ≤ S.length + 1 := by
    split
    · rw [List.length_cons, List.length_drop, List.length_take]; omega
    · rw [List.length_take]; simp; omega
  omega
theorem gCut_lay {sg : Bool} {S : List UInt8} {e : Int} (hS : dgOk S = true) (hne : S ≠ []) (hl : S.length ≤ 3900) (he : -1000000 ≤ e ∧ e ≤ 1000000) :
    gCut (layT sg S e) = ⟨1, sg, false, S, e, 0⟩ := by
  obtain ⟨hb, ha⟩ := dgOk_id hS
  match S, hne with
  | c :: R, _ =>
    have hc : isDg c = true := by
      rw [List.all_cons] at ha; exact (Bool.and_eq_true _ _ ▸ ha).1
    have hR : R.all isDg = true := by
      rw [List.all_cons] at ha; exact (Bool.and_eq_true _ _ ▸ ha).2
    have hlen := layT_len (sg := sg) (S := c :: R) (e := e) ⟨by omega, by omega⟩
    obtain ⟨m, hm⟩ : ∃ m, [c] ++ ((if R = [] then [] else 46 :: R) ++ 101 :: itoa (e + R.length)) = m := ⟨_, rfl⟩
    have hlay : layT sg (c :: R) e = (if sg then [45] else []) ++ m := by
      rw [← hm]
      unfold layT
      have e1 : (if 1 < (c :: R).length then 46 :: (c :: R).drop 1 else []) = if R = [] then [] else 46 :: R := by
        cases R with
        | nil => rfl
        | cons y t => rw [if_pos (by rw [List.length_cons, List.length_cons]; omega), if_neg (by simp)]; rfl
      rw [e1, show (e + ((c :: R).length : Int) - 1) = e + R.length by rw [List.length_cons]; omega]
      rfl
    have hsg := sgn_dg (l := [c]) (by rw [List.all_cons, hc]; rfl) ((if R = [] then [] else 46 :: R) ++ 101 :: itoa (e + R.length)) (by simp)
    rw [hm] at hsg
    obtain ⟨s1, s2⟩ := sgn_pre sg hsg.1 hsg.2
    rw [hlay] at hlen ⊢
    have hw : gWord (m.map lowB) = none := by
      rw [← hm, List.singleton_append, List.map_cons]
      exact gWord_no rfl (by rw [lowB_dg hc]; exact hc)
    unfold gCut
    rw [if_neg (by omega), s1, s2, hw]
    have h := gNum_lay sg (c := c) (R := R) (x := e + R.length) hc hR ⟨by omega, by rw [List.length_cons] at hl; omega⟩
    rw [hm] at h
    dsimp only
    rw [h, hb]
    congr 1
    omega
theorem exact_rd {n r : Int} {sg : Bool} {C N : Nat} {ex e : Int} (hn : 1 ≤ n ∧ n ≤ 6) (hR : okR n r = true) (hD : isD n 1 false C ex) (hC : C ≠ 0) (hl : (decS N).length ≤ 3900) (he : -100000 ≤ e ∧ e ≤ 100000)
    (hv : N * 10 ^ e.toNat * 2 ^ (-ex).toNat = C * (10 ^ (-e).toNat * 2 ^ ex.toNat)) (hN : N ≠ 0) :
    rdE n r (layT sg (decS N) e) = 0 ∧ rdF n r (layT sg (decS N) e) = 0 ∧ rdV n r (layT sg (decS N) e) = packS n 1 sg false C ex := by
  have hS := decS_ok N
  have hne : decS N ≠ [] := by unfold decS; rw [if_neg hN]; exact decD_ne N
  have hc := gCut_lay (sg := sg) (e := e) hS hne hl ⟨by omega, by omega⟩
  have hz : (gCut (layT sg (decS N) e)).e = 0 := by rw [hc]
  have G : gGood 1 sg false (decS N) e = true := good_num hS hl ⟨by omega, by omega⟩
  obtain ⟨h1, h2, h3⟩ := rd_ok (l := layT sg (decS N) e) hR hz
  rw [hc] at h1 h2 h3
  rw [h1, h2, h3, mk_ok hR G, (mk_1 hR G).1, (mk_1 hR G).2]
  have ha := (dgOk_id hS).2
  have b1 : dv (decS N) < 10 ^ 4000 := Nat.lt_of_lt_of_le (dv_lt _ ha) (p10 (decS N).length 4000 (by omega))
  obtain ⟨f1, f2⟩ := far_eqM (n := n) (r := r) (s := sg) (x := e) (M := 100000) hn (by decide) b1
  rw [← f1, ← f2]
  have c1 : clE 100000 e = e := by unfold clE; omega
  have hh : tenX 100000 (decS N) e * 2 ^ (-ex).toNat = C * (tenY 100000 e * 2 ^ ex.toNat) := by
    unfold tenX tenY
    rw [c1, decS_dv]
    exact hv
  have := rnd_exact (d := r) (s := sg) hn (tenY_pos 100000 e) hC hD hh
  exact ⟨rfl, this.2, this.1⟩
def finB (n : Int) (V : Nat) : Bool := okB n V && (decide (dC n V = 1) && decide (dV n V ≠ 0))
theorem dV241 {n : Int} {V : Nat} (h : okB n V = true) (hc : dC n V = 1) : dV n V < 2 ^ 241 := by
  have k : dC n V = uC n V := if_pos h
  have kv : dV n V = uV n V := if_pos h
  rw [k] at hc
  obtain ⟨hD, _⟩ := up_isD h hc
  have F := bfmt (okB_in h).1
  rw [kv]
  have p241 := F.p241
  refine blen_lt.1 ?_
  rcases hD with ⟨_, _, _, _, h5⟩ | ⟨h5, _⟩ | ⟨h5, _⟩
  · omega
  · exact absurd h5 (by decide)
  · exact absurd h5 (by decide)
theorem finB_cases (n : Int) (V : Nat) :
    (finB n V = false ∧ okB n V = false) ∨ (finB n V = false ∧ okB n V = true ∧ (dC n V == 1) = false) ∨
    (finB n V = false ∧ okB n V = true ∧ (dC n V == 1) = true ∧ (w4 (dV n V) 0 == 0 && (w4 (dV n V) 1 == 0 && (w4 (dV n V) 2 == 0 && w4 (dV n V) 3 == 0))) = true) ∨
    (finB n V = true ∧ okB n V = true ∧ (dC n V == 1) = true ∧ (w4 (dV n V) 0 == 0 && (w4 (dV n V) 1 == 0 && (w4 (dV n V) 2 == 0 && w4 (dV n V) 3 == 0))) = false ∧ 1 ≤ n ∧ n ≤ 6) := by
  rcases Bool.eq_false_or_eq_true (okB n V) with h1 | h1
  · by_cases h2 : dC n V = 1
    · by_cases h3 : dV n V = 0
      · exact .inr (.inr (.inl ⟨by unfold finB; rw [h1, h3]; simp, h1, by rw [h2]; rfl, w4_z0 h3⟩))
      · exact .inr (.inr (.inr ⟨by unfold finB; rw [h1, decide_eq_true h2, decide_eq_true h3]; rfl, h1, by rw [h2]; rfl, w4_zn (Nat.lt_trans (dV241 h1 h2) (Nat.pow_lt_pow_right (by decide) (by decide))) h3, (okB_in h1).1⟩))
    · exact .inr (.inl ⟨by unfold finB; rw [h1, decide_eq_false h2]; rfl, h1, by rw [beq_eq_false_iff_ne]; exact h2⟩)
  · exact .inl ⟨by unfold finB; rw [h1]; rfl, h1⟩
theorem fin_ok {n : Int} {V : Nat} (h : finB n V = true) :
    (1 ≤ n ∧ n ≤ 6) ∧ dV n V ≠ 0 ∧ dV n V < 2 ^ 241 ∧ isD n 1 false (dV n V) (dX n V) ∧ packS n 1 (dS n V) false (dV n V) (dX n V) = V ∧ -17000 ≤ dX n V ∧ dX n V ≤ 17000 := by
  unfold finB at h
  simp only [Bool.and_eq_true, decide_eq_true_eq] at h
  obtain ⟨h1, h2, h3⟩ := h
  have k : dC n V = uC n V := if_pos h1
  have kv : dV n V = uV n V := if_pos h1
  have kx : dX n V = uX n V := if_pos h1
  have ks : dS n V = uS n V := if_pos h1
  have hc := h2
  rw [k] at hc
  obtain ⟨hD, hP⟩ := up_isD h1 hc
  have F := bfmt (okB_in h1).1
  have p8 := F.p8
  have p241 := F.p241
  have e15 := F.e15
  have e16 := F.e16
  refine ⟨(okB_in h1).1, h3, dV241 h1 h2, by rw [kv, kx]; exact hD, by rw [kv, kx, ks]; exact hP, ?_⟩
  rw [kx]
  rcases hD with ⟨_, _, h4, h5, _⟩ | ⟨h5, _⟩ | ⟨h5, _⟩
  · omega
  · exact absurd h5 (by decide)
  · exact absurd h5 (by decide)
theorem all_up {C : Nat} {x : Int} (hC : C ≠ 0) (hl : C < 2 ^ 241) (h0 : 0 ≤ x) (hx : x ≤ 17000) :
    C * 2 ^ x.toNat < 10 ^ 18000 ∧ C * 2 ^ x.toNat ≠ 0 ∧ C * 2 ^ x.toNat * 10 ^ (0 : Int).toNat * 2 ^ (-x).toNat = C * (10 ^ (-(0 : Int)).toNat * 2 ^ x.toNat) := by
  refine ⟨?_, Nat.pos_iff_ne_zero.1 (Nat.mul_pos (by omega) (Nat.two_pow_pos _)), ?_⟩
  · have h1 : C * 2 ^ x.toNat < 2 ^ 241 * 2 ^ x.toNat := Nat.mul_lt_mul_of_pos_right hl (Nat.two_pow_pos _)
    rw [← Nat.pow_add] at h1
    have h2 : 2 ^ (241 + x.toNat) ≤ 10 ^ (241 + x.toNat) := Nat.pow_le_pow_left (by decide) _
    have h3 := p10 (241 + x.toNat) 18000 (by omega)
    omega
  · rw [show (-x).toNat = 0 by omega]
    simp
theorem all_down {C : Nat} {x : Int} (hC : C ≠ 0) (hl : C < 2 ^ 241) (h0 : x < 0) (hx : -17000 ≤ x) :
    C * 5 ^ (-x).toNat < 10 ^ 18000 ∧ C * 5 ^ (-x).toNat ≠ 0 ∧ C * 5 ^ (-x).toNat * 10 ^ x.toNat * 2 ^ (-x).toNat = C * (10 ^ (-x).toNat * 2 ^ x.toNat) := by
  refine ⟨?_, Nat.pos_iff_ne_zero.1 (Nat.mul_pos (by omega) (Nat.pow_pos (by decide))), ?_⟩
  · have h1 : C * 5 ^ (-x).toNat < 2 ^ 241 * 5 ^ (-x).toNat := Nat.mul_lt_mul_of_pos_right hl (Nat.pow_pos (by decide))
    have h2 : 2 ^ 241 * 5 ^ (-x).toNat ≤ 10 ^ 241 * 10 ^ (-x).toNat := Nat.mul_le_mul (Nat.pow_le_pow_left (by decide) _) (Nat.pow_le_pow_left (by decide) _)
    rw [← Nat.pow_add] at h2
    have h3 := p10 (241 + (-x).toNat) 18000 (by omega)
    omega
  · rw [show x.toNat = 0 by omega]
    simp only [Nat.pow_zero, Nat.mul_one]
    rw [Nat.mul_assoc, pow_5_2]
end Go.AM.LN
