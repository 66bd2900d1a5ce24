/- Part of the proof: own text. -/
import Derived.Lib.ItoaLen
import Derived.Shelf.Lay
import Derived.Shelf.Strings.Prefix
import Derived.Shelf.Small.Wraps
import Derived.Shelf.Strings.SlTrimAscii
import Derived.Shelf.Strings.MapAny
import Derived.Shelf.Strconv.AtoiAll
import Derived.Shelf.Pu.ParseUintPublic10
import Derived.Shelf.LaysM
import Derived.Shelf.Strconv.Itoa3
import Derived.Ground.NamesProg
import Derived.Ground.MpProg
import Derived.Test.YthdbkmpkebdliaaGreatDoorKA5
set_option linter.all false
set_option maxHeartbeats 20000000
set_option maxRecDepth 20000
namespace Go.AM.LN
open Go Go.Lib
def gText (c : Int) (s q : Bool) (d : List UInt8) (x : Int) : List UInt8 :=
  if c = 2 ∨ c = 3 then nanT c s q d
  else (if s then [45] else []) ++ ((if d = [] then [48] else d) ++ (if x = 0 then [] else 101 :: itoa x))
def dgOk (d : List UInt8) : Bool := d.all isDg && !(d.head? == some 48)
def gGood (c : Int) (s q : Bool) (d : List UInt8) (x : Int) : Bool :=
  dgOk d && (decide (c = 1) && (!q && decide (-1000000000 ≤ x ∧ x ≤ 1000000000) && decide ((gText c s q d x).length ≤ 4000))
    || decide (c = 2) && (!q && d.isEmpty && decide (x = 0))
    || decide (c = 3) && (decide (x = 0) && decide ((gText c s q d x).length ≤ 4000)))
theorem dgOk_bare {l : List UInt8} (h : l.all isDg = true) : dgOk (bare l) = true := by
  unfold dgOk
  rw [bare_all h, Bool.true_and]
  rcases bare_head l with h0 | ⟨c, r, h0, h1⟩
  · rw [h0]; rfl
  · rw [h0]; simp [h1]
theorem dgOk_id {d : List UInt8} (h : dgOk d = true) : bare d = d ∧ d.all isDg = true := by
  unfold dgOk at h
  simp only [Bool.and_eq_true, Bool.not_eq_true', beq_eq_false_iff_ne, ne_eq] at h
  exact ⟨bare_id h.2, h.1⟩
theorem gPart_all (r : List UInt8) : (gPart r).all isDg = true := by
  unfold gPart
  split
  · exact gDig_all _
  · rfl
theorem gPart_len (r : List UInt8) : (gPart r).length ≤ r.length := by
  unfold gPart
  split
  · have := gOff_len (r.drop 1); rw [List.length_drop] at this; omega
  · simp
theorem gNum_ok {s : Bool} {m : List UInt8} (hm : m.length ≤ 4000) (h : (gNum s m).e = 0) : (gNum s m).c = 1 ∧ (gNum s m).q = false ∧ dgOk (gNum s m).d = true ∧ -1000000000 ≤ (gNum s m).x ∧ (gNum s m).x ≤ 1000000000 := by
  have hd : dgOk (bare (gDig m ++ gPart (gOff m))) = true := dgOk_bare (by rw [List.all_append, gDig_all, gPart_all]; rfl)
  have h1 := gOff_len m
  have h2 := gPart_len (gOff m)
  unfold gNum at h ⊢
  split at h
  · exact absurd h (by decide)
  · rw [if_neg (by assumption)]
    split at h
    · rw [if_pos (by assumption)]
      exact ⟨rfl, rfl, hd, by dsimp only; omega, by dsimp only; omega⟩
    · rw [if_neg (by assumption)]
      split at h
      · rw [if_pos (by assumption)]
        exact ⟨rfl, rfl, hd, by dsimp only; omega, by dsimp only; omega⟩
      · exact absurd h (by decide)
theorem gWord_ok {m : List UInt8} {c : Int} {q : Bool} {d : List UInt8} (h : gWord m = some (c, q, d)) : (c = 2 ∧ q = false ∧ d = []) ∨ (c = 3 ∧ dgOk d = true) := by
  unfold gWord at h
  split at h
  · cases h; exact .inl ⟨rfl, rfl, rfl⟩
  · split at h
    · cases h
    · dsimp only at h
      obtain ⟨r, hr⟩ : ∃ r, (if hasPrefix m wNan = true then m.drop 3 else m.drop 4) = r := ⟨_, rfl⟩
      rw [hr] at h
      by_cases h0 : r = []
      · rw [if_pos h0] at h; cases h; exact .inr ⟨rfl, rfl⟩
      · rw [if_neg h0] at h
        by_cases hp : gPar r = true
        · rw [if_pos hp] at h
          cases h
          exact .inr ⟨rfl, dgOk_bare (gPar_eq hp).2.2⟩
        · rw [if_neg hp] at h; cases h
theorem gCut_ok {l : List UInt8} (h : (gCut l).e = 0) : l.length ≤ 4000 ∧ (((gCut l).c = 1 ∧ (gCut l).q = false ∧ dgOk (gCut l).d = true ∧ -1000000000 ≤ (gCut l).x ∧ (gCut l).x ≤ 1000000000) ∨ ((gCut l).c = 2 ∧ (gCut l).q = false ∧ (gCut l).d = [] ∧ (gCut l).x = 0) ∨ ((gCut l).c = 3 ∧ dgOk (gCut l).d = true ∧ (gCut l).x = 0)) := by
  unfold gCut at h ⊢
  split at h
  · exact absurd h (by decide)
  · rw [if_neg (by assumption)]
    refine ⟨by omega, ?_⟩
    cases hw : gWord ((sgnR l).map lowB) with
    | none =>
      rw [hw] at h
      exact .inl (gNum_ok (Nat.le_trans (sgnR_len l) (by omega)) h)
    | some v =>
      obtain ⟨c, q, d⟩ := v
      rcases gWord_ok hw with ⟨rfl, rfl, rfl⟩ | ⟨rfl, h3⟩
      · exact .inr (.inl ⟨rfl, rfl, rfl, rfl⟩)
      · exact .inr (.inr ⟨rfl, h3, rfl⟩)
theorem ofNat48 {k : Nat} (h : k < 10) : isDg (UInt8.ofNat (48 + k)) = true ∧ (UInt8.ofNat (48 + k)).toNat = 48 + k := by
  have : (UInt8.ofNat (48 + k)).toNat = 48 + k := by simp; omega
  exact ⟨decide_eq_true (by rw [this]; omega), this⟩
theorem decD_ok : ∀ (k n : Nat), n < 10 ^ k → (decDigits n).all isDg = true ∧ dv (decDigits n) = n ∧ decDigits n ≠ []
  | 0, n, h => by
    have : n = 0 := by simpa using h
    subst this
    rw [decD_small (by decide)]
    decide
  | k + 1, n, h => by
    rcases Nat.lt_or_ge n 10 with h1 | h1
    · rw [decD_small h1]
      obtain ⟨a, b⟩ := ofNat48 h1
      refine ⟨by simp only [List.all_cons, List.all_nil, a, Bool.and_true], ?_, by simp⟩
      rw [dv_cons, b]; simp [dv]
    · rw [decD_big h1]
      obtain ⟨i1, i2, i3⟩ := decD_ok k (n / 10) (by rw [Nat.pow_succ] at h; omega)
      obtain ⟨a, b⟩ := ofNat48 (Nat.mod_lt n (show 0 < 10 by decide))
      refine ⟨by rw [List.all_append, i1]; simp only [List.all_cons, List.all_nil, a, Bool.and_true], ?_, by simp⟩
      rw [dv_snoc, i2, b]; omega
theorem lt_pow10 (n : Nat) : n < 10 ^ n := Nat.lt_pow_self (by decide)
theorem decD_all (n : Nat) : (decDigits n).all isDg = true := (decD_ok n n (lt_pow10 n)).1
theorem decD_dv (n : Nat) : dv (decDigits n) = n := (decD_ok n n (lt_pow10 n)).2.1
theorem decD_ne (n : Nat) : decDigits n ≠ [] := (decD_ok n n (lt_pow10 n)).2.2
theorem decS_dv (n : Nat) : dv (decS n) = n := by unfold decS; split; simp [dv, *]; exact decD_dv n
theorem decS_ok (n : Nat) : dgOk (decS n) = true := by rw [← bare_dec n]; exact dgOk_bare (decD_all n)
theorem sgn_dg {l : List UInt8} (h : l.all isDg = true) (r : List UInt8) : l ≠ [] → sgnN (l ++ r) = false ∧ sgnR (l ++ r) = l ++ r := by
  cases l with
  | nil => exact fun h => absurd rfl h
  | cons c t =>
    intro _
    simp only [List.all_cons, Bool.and_eq_true] at h
    have h1 := isDg_t h.1
    have e1 : c ≠ 45 := fun hc => by rw [hc] at h1; exact absurd h1.1 (by decide)
    have e2 : c ≠ 43 := fun hc => by rw [hc] at h1; exact absurd h1.1 (by decide)
    rw [List.cons_append, (sgn_cons c _).1, (sgn_cons c _).2, if_neg (by rintro (h | h); exact e1 h; exact e2 h)]
    exact ⟨by simp [e1], rfl⟩
theorem exp_itoa {x : Int} (h : -2000000000 ≤ x ∧ x ≤ 2000000000) : expOk (itoa x) = true ∧ expV (itoa x) = x := by
  by_cases h0 : x < 0
  · have e : itoa x = 45 :: decDigits x.natAbs := if_pos h0
    have hr : sgnR (itoa x) = decDigits x.natAbs ∧ sgnN (itoa x) = true := by
      rw [e, (sgn_cons _ _).1, (sgn_cons _ _).2]; exact ⟨rfl, rfl⟩
    have ho : expOk (itoa x) = true := by
      unfold expOk
      rw [hr.1, decD_all, Bool.and_true]
      simpa using decD_ne x.natAbs
    refine ⟨ho, ?_⟩
    unfold expV
    rw [if_pos ho, hr.1, hr.2, if_pos rfl, decD_dv]
    omega
  · have e : itoa x = decDigits x.toNat := if_neg h0
    have hs := sgn_dg (decD_all x.toNat) [] (decD_ne _)
    rw [List.append_nil] at hs
    have ho : expOk (itoa x) = true := by
      unfold expOk
      rw [e, hs.2, decD_all, Bool.and_true]
      simpa using decD_ne x.toNat
    refine ⟨ho, ?_⟩
    unfold expV
    rw [if_pos ho, e, hs.1, hs.2, decD_dv, if_neg (by decide)]
    omega
theorem gWord_no {m : List UInt8} {c : UInt8} {r : List UInt8} (h : m = c :: r) (hc : isDg c = true) : gWord m = none := by
  have h1 := isDg_t hc
  have n1 : c ≠ 105 := fun hh => by rw [hh] at h1; exact absurd h1.2 (by decide)
  have n2 : c ≠ 110 := fun hh => by rw [hh] at h1; exact absurd h1.2 (by decide)
  have n3 : c ≠ 115 := fun hh => by rw [hh] at h1; exact absurd h1.2 (by decide)
  unfold gWord
  rw [if_neg (by
    rw [h]
    rintro (hh | hh)
    · unfold wInf at hh; cases hh; exact n1 rfl
    · unfold wInfinity at hh; cases hh; exact n1 rfl)]
  rw [if_pos]
  rw [h]
  unfold hasPrefix wNan wSnan
  constructor
  · simp [List.isPrefixOf, Ne.symm n2]
  · simp [List.isPrefixOf, Ne.symm n3]
theorem lowB_dg {c : UInt8} (h : isDg c = true) : lowB c = c := by
  have := isDg_t h
  unfold lowB
  rw [if_neg (by omega)]
theorem low_dg {l : List UInt8} (h : l.all isDg = true) : l.map lowB = l := by
  induction l with
  | nil => rfl
  | cons c r ih =>
    simp only [List.all_cons, Bool.and_eq_true] at h
    rw [List.map_cons, lowB_dg h.1, ih h.2]
theorem sgn_pre (s : Bool) {l : List UInt8} (h1 : sgnN l = false) (h2 : sgnR l = l) : sgnN ((if s then [45] else []) ++ l) = s ∧ sgnR ((if s then [45] else []) ++ l) = l := by
  cases s
  · exact ⟨h1, h2⟩
  · have := sgn_cons 45 l
    exact ⟨this.1, this.2⟩
theorem gNum_dg (s : Bool) {D E : List UInt8} (h : D.all isDg = true) (hD : D ≠ []) (hE : E = [] ∨ ∃ r, E = 101 :: r) :
    gNum s (D ++ E) = if E = [] then ⟨1, s, false, bare D, 0, 0⟩ else if expOk (E.drop 1) then ⟨1, s, false, bare D, min (max (expV (E.drop 1)) (-1000000000)) 1000000000, 0⟩ else gBad 2 := by
  have h1 := gDig_app (l := D) (r := E) h (fun c hc => by
    rcases hE with rfl | ⟨r, rfl⟩
    · cases hc
    · cases hc; decide)
  have h2 : hasPrefix E [46] = false := by
    rcases hE with rfl | ⟨r, rfl⟩ <;> rfl
  have h3 : gPart E = [] := by unfold gPart; rw [h2]; rfl
  have h4 : gRest E = E := by unfold gRest; rw [h2]; rfl
  unfold gNum
  rw [h1.1, h1.2, h3, h4, List.append_nil, if_neg hD]
  by_cases hn : E = []
  · rw [if_pos hn, if_pos hn]; simp
  · rw [if_neg hn, if_neg hn]
    rcases hE with rfl | ⟨r, rfl⟩
    · exact absurd rfl hn
    · have : isE (101 :: r) = true := rfl
      rw [this, Bool.true_and]
      simp
theorem gWord_nan (q : Bool) {d : List UInt8} (h : dgOk d = true) : gWord ((if q then [115] else []) ++ [110, 97, 110] ++ (if d = [] then [] else 40 :: (d ++ [41]))) = some (3, q, d) := by
  obtain ⟨hb, ha⟩ := dgOk_id h
  obtain ⟨r, hr⟩ : ∃ r, (if d = [] then [] else 40 :: (d ++ [41])) = r := ⟨_, rfl⟩
  rw [hr]
  have hcase : (d = [] ∧ r = []) ∨ (d ≠ [] ∧ r = 40 :: (d ++ [41])) := by
    by_cases hd : d = []
    · rw [if_pos hd] at hr; exact .inl ⟨hd, hr.symm⟩
    · rw [if_neg hd] at hr; exact .inr ⟨hd, hr.symm⟩
  have hpar : d ≠ [] → gPar (40 :: (d ++ [41])) = true ∧ gIn (40 :: (d ++ [41])) = d := fun hd => by
    have e : gIn (40 :: (d ++ [41])) = d := by
      unfold gIn
      simp
    refine ⟨?_, e⟩
    unfold gPar
    rw [e, ha, Bool.and_true]
    have h1 : hasPrefix (40 :: (d ++ [41])) [40] = true := by simp [hasPrefix, List.isPrefixOf]
    have h2 : hasSuffix (List.drop 1 (40 :: (d ++ [41]))) [41] = true := by
      unfold hasSuffix
      rw [List.isSuffixOf_iff_suffix]
      exact ⟨d, rfl⟩
    rw [h1, h2]
    simpa using hd
  unfold gWord
  cases q
  · rw [if_neg (by rintro (hh | hh) <;> cases hh)]
    have hp : hasPrefix ((if false then [115] else []) ++ [110, 97, 110] ++ r) wNan = true := by simp [hasPrefix, wNan, List.isPrefixOf]
    rw [hp, if_neg (by simp), if_pos rfl]
    dsimp only
    have e : (List.drop 3 ((if false then [115] else []) ++ [110, 97, 110] ++ r)) = r := rfl
    rw [e]
    rcases hcase with ⟨rfl, rfl⟩ | ⟨hd, rfl⟩
    · rw [if_pos rfl]; rfl
    · rw [if_neg (by simp), if_pos (hpar hd).1, (hpar hd).2, hb]; rfl
  · rw [if_neg (by rintro (hh | hh) <;> cases hh)]
    have hp : hasPrefix ((if true then [115] else []) ++ [110, 97, 110] ++ r) wNan = false := by simp [hasPrefix, wNan, List.isPrefixOf]
    have hp2 : hasPrefix ((if true then [115] else []) ++ [110, 97, 110] ++ r) wSnan = true := by simp [hasPrefix, wSnan, List.isPrefixOf]
    rw [hp, hp2, if_neg (by simp)]
    dsimp only
    rw [if_neg (by simp : ¬ (false = true))]
    have e : (List.drop 4 ((if true then [115] else []) ++ [110, 97, 110] ++ r)) = r := rfl
    rw [e]
    rcases hcase with ⟨rfl, rfl⟩ | ⟨hd, rfl⟩
    · rw [if_pos rfl]; rfl
    · rw [if_neg (by simp), if_pos (hpar hd).1, (hpar hd).2, hb]; rfl
theorem low_nan (q : Bool) {d : List UInt8} (h : dgOk d = true) : ((if q then [115] else []) ++ [110, 97, 110] ++ (if d = [] then [] else 40 :: (d ++ [41]))).map lowB = ((if q then [115] else []) ++ [110, 97, 110] ++ (if d = [] then [] else 40 :: (d ++ [41]))) := by
  have ha := (dgOk_id h).2
  have h1 : ((if q then [115] else []) : List UInt8).map lowB = (if q then [115] else []) := by cases q <;> decide
  have h2 : ([110, 97, 110] : List UInt8).map lowB = [110, 97, 110] := by decide
  have h3 : ((if d = [] then [] else 40 :: (d ++ [41])) : List UInt8).map lowB = (if d = [] then [] else 40 :: (d ++ [41])) := by
    split
    · rfl
    · rw [List.map_cons, List.map_append, low_dg ha]; rfl
  rw [List.map_append, List.map_append, h1, h2, h3]
theorem join_iff (c : Int) (s q : Bool) (d : List UInt8) (x : Int) : gCut (gText c s q d x) = ⟨c, s, q, d, x, 0⟩ ↔ gGood c s q d x = true := by
  constructor
  · intro h
    have h0 := gCut_ok (l := gText c s q d x) (by rw [h])
    rw [h] at h0
    dsimp only at h0
    obtain ⟨hl, h1⟩ := h0
    unfold gGood
    rcases h1 with ⟨rfl, rfl, h2, h3, h4⟩ | ⟨rfl, rfl, rfl, rfl⟩ | ⟨rfl, h2, rfl⟩
    · rw [h2]; simp [hl, h3, h4]
    · rfl
    · rw [h2]; simp [hl]
  · intro h
    unfold gGood at h
    simp only [Bool.and_eq_true, Bool.or_eq_true, decide_eq_true_eq, Bool.not_eq_true', List.isEmpty_iff] at h
    obtain ⟨hd, h⟩ := h
    obtain ⟨hb, ha⟩ := dgOk_id hd
    rcases h with (⟨rfl, ⟨hq, hx⟩, hl⟩ | ⟨rfl, ⟨hq, rfl⟩, rfl⟩) | ⟨rfl, rfl, hl⟩
    · subst hq
      have ht : gText 1 s false d x = (if s then [45] else []) ++ ((if d = [] then [48] else d) ++ (if x = 0 then [] else 101 :: itoa x)) := by unfold gText; rw [if_neg (by decide)]
      unfold gCut
      rw [if_neg (by omega), ht]
      obtain ⟨D, hD⟩ : ∃ D, (if d = [] then [48] else d) = D := ⟨_, rfl⟩
      obtain ⟨E, hE⟩ : ∃ E, (if x = 0 then [] else 101 :: itoa x) = E := ⟨_, rfl⟩
      rw [hD, hE]
      have hDa : D.all isDg = true ∧ D ≠ [] ∧ bare D = d := by
        by_cases h0 : d = []
        · rw [if_pos h0] at hD; subst hD; subst h0; decide
        · rw [if_neg h0] at hD; subst hD; exact ⟨ha, h0, hb⟩
      have hs := sgn_dg hDa.1 E hDa.2.1
      have hp := sgn_pre s hs.1 hs.2
      rw [hp.1, hp.2]
      have hw : gWord ((D ++ E).map lowB) = none := by
        obtain ⟨c0, r0, hr⟩ := List.exists_cons_of_ne_nil hDa.2.1
        have hc := hDa.1
        rw [hr] at hc
        simp only [List.all_cons, Bool.and_eq_true] at hc
        refine gWord_no (c := c0) (r := (r0 ++ E).map lowB) ?_ hc.1
        rw [hr, List.cons_append, List.map_cons, lowB_dg hc.1]
      rw [hw]
      dsimp only
      rw [gNum_dg s hDa.1 hDa.2.1 (by
        by_cases h0 : x = 0
        · rw [if_pos h0] at hE; exact .inl hE.symm
        · rw [if_neg h0] at hE; exact .inr ⟨_, hE.symm⟩), hDa.2.2]
      by_cases h0 : x = 0
      · rw [if_pos h0] at hE; subst hE; subst h0; rw [if_pos rfl]
      · rw [if_neg h0] at hE; subst hE
        obtain ⟨e1, e2⟩ := exp_itoa (x := x) (by omega)
        rw [if_neg (by simp), List.drop_one, List.tail_cons, e1, if_pos rfl, e2]
        rw [show min (max x (-1000000000)) 1000000000 = x by omega]
    · subst hq
      cases s <;> decide +kernel
    · have ht : gText 3 s q d 0 = (if s then [45] else []) ++ (((if q then [115] else []) ++ [110, 97, 110] ++ (if d = [] then [] else 40 :: (d ++ [41])))) := by
        unfold gText nanT; rw [if_pos (by decide : (3 : Int) = 2 ∨ (3 : Int) = 3), if_neg (by decide : ¬ (3 : Int) = 2)]
      unfold gCut
      rw [if_neg (by omega), ht]
      have hs : sgnN ((if q then [115] else []) ++ [110, 97, 110] ++ (if d = [] then [] else 40 :: (d ++ [41]))) = false ∧ sgnR ((if q then [115] else []) ++ [110, 97, 110] ++ (if d = [] then [] else 40 :: (d ++ [41]))) = ((if q then [115] else []) ++ [110, 97, 110] ++ (if d = [] then [] else 40 :: (d ++ [41]))) := by
        cases q
        · exact ⟨(sgn_cons 110 _).1, (sgn_cons 110 _).2⟩
        · exact ⟨(sgn_cons 115 _).1, (sgn_cons 115 _).2⟩
      have hp := sgn_pre s hs.1 hs.2
      rw [hp.1, hp.2, low_nan q hd, gWord_nan q hd]
def clE (m x : Int) : Int := min (max x (-m)) m
def tenX (m : Int) (d : List UInt8) (x : Int) : Nat := dv d * 10 ^ (clE m x).toNat
def tenY (m x : Int) : Nat := 10 ^ (-clE m x).toNat
theorem tenY_pos (m x : Int) : 0 < tenY m x := Nat.pow_pos (by decide)
theorem pow_8_10 (k : Nat) : 2 ^ (3 * k) ≤ 10 ^ k := by
  rw [Nat.pow_mul]
  exact Nat.pow_le_pow_left (by decide) k
theorem big10 {k : Nat} (h : 11000 ≤ k) : 33000 ≤ blen (10 ^ k) - 1 ∧ 33000 < blen (10 ^ k) := by
  have := blen_le.2 (pow_8_10 k)
  omega
theorem blen10 {v k : Nat} (h : v < 10 ^ k) : blen v ≤ 4 * k := by
  refine blen_lt.2 (Nat.lt_of_lt_of_le h ?_)
  rw [Nat.pow_mul]
  exact Nat.pow_le_pow_left (by decide) _
theorem rnd_big {n d : Int} {s : Bool} {x : Nat} (hn : 1 ≤ n ∧ n ≤ 6) (h : 33000 < blen x) : rndV n d s x 1 0 = ovV n d s ∧ rndF n d s x 1 0 = 10 := by
  obtain ⟨F1, F2, F3, F4, F5, F6, F7, F8, F9, F10, F11⟩ := bfmt hn
  have hx : x ≠ 0 := fun hc => by rw [hc] at h; exact absurd h (by decide)
  have h1 := (lowS_bound (x := x) (y := 1) (by omega) (by decide)).1
  have h2 := (@rq_b n x 1 0).2.1
  have h3 : rlow x 1 0 = lowS x 1 + 0 := rfl
  have h4 : (blen 1 : Int) = 1 := by decide
  exact rnd_ovA hx (by omega)
theorem rnd_tiny {n d : Int} {s : Bool} {x y : Nat} (hn : 1 ≤ n ∧ n ≤ 6) (hx : 0 < x) (hy : 33000 < blen y) (h : blen x ≤ 16000) :
    rlow x y 0 < 2 - fe n - fp n + fp n - 1 ∧ rq n x y 0 = 2 - fe n - fp n ∧ rdiv n d s x y 0 = divS d s 1 4 := by
  obtain ⟨F1, F2, F3, F4, F5, F6, F7, F8, F9, F10, F11⟩ := bfmt hn
  have hy0 : 0 < y := by
    rcases Nat.eq_zero_or_pos y with hc | hc
    · rw [hc] at hy; exact absurd hy (by decide)
    · exact hc
  have h1 := (lowS_bound hx hy0).2
  have h3 : rlow x y 0 = lowS x y + 0 := rfl
  have h4 := rdiv_tiny (n := n) (d := d) (s := s) (e := 0) hx hy0 (by omega) (by omega)
  exact ⟨by omega, h4.1, h4.2⟩
theorem far_eq {n r : Int} {s : Bool} {d : List UInt8} {x : Int} (hn : 1 ≤ n ∧ n ≤ 6) (hd : dv d < 10 ^ 4000) :
    rndV n r s (tenX 12000 d x) (tenY 12000 x) 0 = rndV n r s (tenX 11000 d x) (tenY 11000 x) 0 ∧ rndF n r s (tenX 12000 d x) (tenY 12000 x) 0 = rndF n r s (tenX 11000 d x) (tenY 11000 x) 0 := by
  unfold tenX tenY
  rcases Nat.eq_zero_or_pos (dv d) with h0 | h0
  · rw [h0, Nat.zero_mul, Nat.zero_mul]
    rw [(rnd_zero (n := n) (d := r) (s := s) (e := 0) rfl).1, (rnd_zero (n := n) (d := r) (s := s) (e := 0) rfl).2, (rnd_zero (n := n) (d := r) (s := s) (e := 0) rfl).1, (rnd_zero (n := n) (d := r) (s := s) (e := 0) rfl).2]
    exact ⟨rfl, rfl⟩
  · have hb := blen10 hd
    have hcase : (-11000 ≤ x ∧ x ≤ 11000) ∨ 11000 < x ∨ x < -11000 := by omega
    rcases hcase with hc | hc | hc
    · have e1 : clE 12000 x = clE 11000 x := by unfold clE; omega
      rw [e1]; exact ⟨rfl, rfl⟩
    · have e1 : (-clE 12000 x).toNat = 0 := by unfold clE; omega
      have e2 : (-clE 11000 x).toNat = 0 := by unfold clE; omega
      rw [e1, e2, Nat.pow_zero]
      have key : ∀ k : Nat, 11000 ≤ k → 33000 < blen (dv d * 10 ^ k) := fun k hk => by
        have h1 : 10 ^ k ≤ dv d * 10 ^ k := by
          have := Nat.mul_le_mul_right (10 ^ k) h0
          omega
        have h2 := blen_le.2 (Nat.le_trans (pow_8_10 k) h1)
        omega
      have k1 := rnd_big (n := n) (d := r) (s := s) hn (key (clE 12000 x).toNat (by unfold clE; omega))
      have k2 := rnd_big (n := n) (d := r) (s := s) hn (key (clE 11000 x).toNat (by unfold clE; omega))
      rw [k1.1, k1.2, k2.1, k2.2]
      exact ⟨rfl, rfl⟩
    · have e1 : (clE 12000 x).toNat = 0 := by unfold clE; omega
      have e2 : (clE 11000 x).toNat = 0 := by unfold clE; omega
      rw [e1, e2, Nat.pow_zero, Nat.mul_one]
      obtain ⟨a1, a2, a3⟩ := rnd_tiny (n := n) (d := r) (s := s) hn h0 (big10 (k := (-clE 12000 x).toNat) (by unfold clE; omega)).2 (by omega)
      obtain ⟨b1, b2, b3⟩ := rnd_tiny (n := n) (d := r) (s := s) hn h0 (big10 (k := (-clE 11000 x).toNat) (by unfold clE; omega)).2 (by omega)
      unfold rndV rndF rq2 rc
      rw [a2, a3, b2, b3, if_pos a1, if_pos b1]
      exact ⟨rfl, rfl⟩
def gPay (n : Int) (q : Bool) (d : List UInt8) : Nat := if q ∧ (if dv d < 2 ^ (fl n).toNat then dv d else 0) = 0 then 1 else (if dv d < 2 ^ (fl n).toNat then dv d else 0)
def mkE (n r c : Int) (s q : Bool) (d : List UInt8) (x : Int) : Int := if okR n r then (if gGood c s q d x then 0 else 2) else 1
def mkV (n r c : Int) (s q : Bool) (d : List UInt8) (x : Int) : Nat :=
  if mkE n r c s q d x = 0 then (if c = 2 then packS n 2 s false 0 0 else if c = 3 then packS n 3 s q (gPay n q d) 0 else rndV n r s (tenX 11000 d x) (tenY 11000 x) 0) else 0
def mkF (n r c : Int) (s q : Bool) (d : List UInt8) (x : Int) : Int :=
  if mkE n r c s q d x = 0 then (if c = 2 then 0 else if c = 3 then 0 else rndF n r s (tenX 11000 d x) (tenY 11000 x) 0) else 0
theorem nanT_len {c : Int} {s q : Bool} {d : List UInt8} : d.length ≤ (nanT c s q d).length ∨ c = 2 := by
  by_cases h : c = 2
  · exact .inr h
  · left
    unfold nanT
    rw [if_neg h]
    by_cases hd : d = []
    · subst hd; simp
    · rw [if_neg hd]; simp; omega
theorem good_len {c : Int} {s q : Bool} {d : List UInt8} {x : Int} (h : gGood c s q d x = true) : d.length ≤ 4000 ∧ (c = 1 ∨ c = 2 ∨ c = 3) ∧ d.all isDg = true := by
  have h0 := (join_iff c s q d x).2 h
  unfold gGood at h
  simp only [Bool.and_eq_true, Bool.or_eq_true, decide_eq_true_eq, Bool.not_eq_true', List.isEmpty_iff] at h
  obtain ⟨hd, h⟩ := h
  refine ⟨?_, ?_, (dgOk_id hd).2⟩
  · rcases h with (⟨rfl, _, hl⟩ | ⟨rfl, ⟨_, rfl⟩, _⟩) | ⟨rfl, _, hl⟩
    · unfold gText at hl
      rw [if_neg (by decide)] at hl
      by_cases hd0 : d = []
      · subst hd0; simp
      · rw [if_neg hd0] at hl
        simp only [List.length_append] at hl
        omega
    · simp
    · unfold gText at hl
      rw [if_pos (by decide)] at hl
      rcases nanT_len (c := 3) (s := s) (q := q) (d := d) with h1 | h1
      · omega
      · exact absurd h1 (by decide)
  · rcases h with (⟨h, _⟩ | ⟨h, _⟩) | ⟨h, _⟩
    · exact .inl h
    · exact .inr (.inl h)
    · exact .inr (.inr h)
def wV (l : List UInt8) : Option (Int × Bool × List UInt8) := gWord (l.map lowB)
def wOk (l : List UInt8) : Bool := (wV l).isSome
def wC (l : List UInt8) : Int := match wV l with | some (c, _, _) => c | none => 0
def wQ (l : List UInt8) : Bool := match wV l with | some (_, q, _) => q | none => false
def wD (l : List UInt8) : List UInt8 := match wV l with | some (_, _, d) => d | none => []
theorem w_some {l : List UInt8} {c : Int} {q : Bool} {d : List UInt8} (h : gWord (l.map lowB) = some (c, q, d)) : wOk l = true ∧ wC l = c ∧ wQ l = q ∧ wD l = d := by
  unfold wOk wC wQ wD wV
  rw [h]; exact ⟨rfl, rfl, rfl, rfl⟩
theorem w_none {l : List UInt8} (h : gWord (l.map lowB) = none) : wOk l = false ∧ wC l = 0 ∧ wQ l = false ∧ wD l = [] := by
  unfold wOk wC wQ wD wV
  rw [h]; exact ⟨rfl, rfl, rfl, rfl⟩
theorem gCut_long {l : List UInt8} (h : 4000 < l.length) : gCut l = gBad 4 := by unfold gCut; rw [if_pos h]
theorem gCut_word {l : List UInt8} (h : l.length ≤ 4000) (hw : wOk (sgnR l) = true) : gCut l = ⟨wC (sgnR l), sgnN l, wQ (sgnR l), wD (sgnR l), 0, 0⟩ := by
  unfold gCut wC wQ wD
  unfold wOk at hw
  rw [if_neg (by omega)]
  have e : gWord ((sgnR l).map lowB) = wV (sgnR l) := rfl
  rw [e]
  cases hv : wV (sgnR l) with
  | none => rw [hv] at hw; cases hw
  | some v => rfl
theorem gCut_num {l : List UInt8} (h : l.length ≤ 4000) (hw : wOk (sgnR l) = false) : gCut l = gNum (sgnN l) (sgnR l) := by
  unfold gCut
  unfold wOk at hw
  rw [if_neg (by omega)]
  have e : gWord ((sgnR l).map lowB) = wV (sgnR l) := rfl
  rw [e]
  cases hv : wV (sgnR l) with
  | none => rfl
  | some v => rw [hv] at hw; cases hw
theorem exp_no {l : List UInt8} (h : gDig (sgnR l) = [] ∨ gOff (sgnR l) ≠ []) : expOk l = false ∧ expV l = 0 := by
  have e : expOk l = false := by
    unfold expOk
    rcases h with h | h
    · cases hs : sgnR l with
      | nil => rfl
      | cons c r =>
        rw [hs] at h
        have : isDg c = false := by
          unfold gDig at h
          rw [List.takeWhile_cons] at h
          split at h
          · cases h
          · rename_i hh; simpa using hh
        simp [this]
    · rcases Bool.eq_false_or_eq_true ((sgnR l).all isDg) with h1 | h1
      · exact absurd (gOff_id h1) h
      · rw [h1, Bool.and_false]
  refine ⟨e, ?_⟩
  unfold expV; rw [e]; rfl
theorem exp_yes {l : List UInt8} (h : gDig (sgnR l) ≠ []) (h2 : gOff (sgnR l) = []) : (sgnR l).all isDg = true ∧ gDig (sgnR l) = sgnR l ∧ expOk l = true ∧ expV l = if sgnN l then -((min (dv (sgnR l)) 2000000000 : Nat) : Int) else ((min (dv (sgnR l)) 2000000000 : Nat) : Int) := by
  have h1 := gOff_nil h2
  have h3 := gDig_id h1
  have e : expOk l = true := by
    unfold expOk
    rw [h1, Bool.and_true]
    rw [h3] at h
    simpa using h
  exact ⟨h1, h3, e, if_pos e⟩
end Go.AM.LN
set_option maxRecDepth 20000
namespace Go.AM.LN
open Go Go.Lib
theorem sgn_t {l : List UInt8} (h : hasPrefix l [45] = true) : sgnN l = true ∧ sgnR l = trimPrefix l [45] := by
  unfold sgnN sgnR trimPrefix; rw [h]; exact ⟨rfl, rfl⟩
theorem sgn_f {l : List UInt8} (h : hasPrefix l [45] = false) : sgnN l = false ∧ sgnR l = trimPrefix l [43] := by
  unfold sgnN sgnR; rw [h]; exact ⟨rfl, rfl⟩
theorem dv48 (l : List UInt8) : dv (48 :: bare l) = dv l := by rw [dv_cons, bare_dv]; simp
theorem exp_lo {l : List UInt8} (h1 : ¬ gDig (sgnR l) = []) (h2 : gOff (sgnR l) = []) : expOk l = true ∧ (sgnN l = true → expV l = 0 - min ((dv (48 :: bare (gDig (sgnR l))) : Nat) : Int) 2000000000) ∧ (sgnN l = false → expV l = min ((dv (48 :: bare (gDig (sgnR l))) : Nat) : Int) 2000000000) := by
  obtain ⟨a, b, c, d⟩ := exp_yes h1 h2
  rw [dv48, b, d]
  refine ⟨c, fun h => ?_, fun h => ?_⟩
  · rw [if_pos h]; omega
  · rw [if_neg (by rw [h]; decide)]; omega
theorem exp_hi {l : List UInt8} (h1 : ¬ gDig (sgnR l) = []) (h2 : gOff (sgnR l) = []) (h3 : 12 ≤ ((bare (gDig (sgnR l))).length : Int)) : expOk l = true ∧ (sgnN l = true → expV l = 0 - min (2000000000 : Int) 2000000000) ∧ (sgnN l = false → expV l = min (2000000000 : Int) 2000000000) := by
  obtain ⟨a, b, c, d⟩ := exp_yes h1 h2
  have hb := bare_big (l := sgnR l) a (by rw [b] at h3; omega)
  rw [d]
  refine ⟨c, fun h => ?_, fun h => ?_⟩
  · rw [if_pos h]; omega
  · rw [if_neg (by rw [h]; decide)]; omega
theorem encodeRune_len (r : Int) : (encodeRune r).length ≤ 4 := by
  unfold encodeRune encodeRuneZ
  repeat' split
  all_goals simp
theorem decodeL_pos {l : List UInt8} (h : l ≠ []) : 1 ≤ (decodeL l).2 := by
  rw [decodeL_N]
  rcases decodeN_shape l.length (l.getD 0 0).toNat (l.getD 1 0).toNat (l.getD 2 0).toNat (l.getD 3 0).toNat with ⟨_, e⟩ | ⟨_, _, _, _, e⟩ | ⟨_, _, _, _, _, _, e⟩ | ⟨_, _, _, _, _, _, _, e⟩ | e <;> (rw [e]; dsimp only; omega)
theorem mapD_len (f : Int → Int) : ∀ (n : Nat) (l : List UInt8), l.length ≤ n → (mapD f l).length ≤ 4 * l.length
  | 0, l, h => by
    have : l = [] := List.length_eq_zero_iff.1 (by omega)
    subst this; simp [mapD_nil]
  | n + 1, [], h => by simp [mapD_nil]
  | n + 1, c :: r, h => by
    rw [mapD_step f _ (by simp)]
    have h1 := decodeL_pos (l := c :: r) (by simp)
    have h2 := mapD_len f n ((c :: r).drop (decodeL (c :: r)).2) (by rw [List.length_drop]; simp at h ⊢; omega)
    have h3 : (if 0 ≤ f (decodeL (c :: r)).1 then encodeRune (f (decodeL (c :: r)).1) else []).length ≤ 4 := by
      split
      · exact encodeRune_len _
      · simp
    rw [List.length_append]
    rw [List.length_drop] at h2
    simp only [List.length_cons] at h2 h ⊢
    omega
theorem w_is {l m : List UInt8} {c : Int} {q : Bool} {d : List UInt8} (hm : mapD lowF l = m) (h : gWord m = some (c, q, d)) : wOk l = true ∧ wC l = c ∧ wQ l = q ∧ wD l = d :=
  w_some (by rw [← word_map, hm]; exact h)
theorem w_no {l m : List UInt8} (hm : mapD lowF l = m) (h : gWord m = none) : wOk l = false ∧ wC l = 0 ∧ wQ l = false ∧ wD l = [] :=
  w_none (by rw [← word_map, hm]; exact h)
theorem gw_i {m : List UInt8} (h : m = wInf) : gWord m = some (2, false, []) := by unfold gWord; rw [if_pos (.inl h)]
theorem gw_j {m : List UInt8} (h : m = wInfinity) : gWord m = some (2, false, []) := by unfold gWord; rw [if_pos (.inr h)]
theorem gw_o {m : List UInt8} (h1 : ¬ m = wInf) (h2 : ¬ m = wInfinity) (h3 : hasPrefix m wNan = false) (h4 : hasPrefix m wSnan = false) : gWord m = none := by
  unfold gWord
  rw [if_neg (by rintro (h | h); exact h1 h; exact h2 h), if_pos ⟨h3, h4⟩]
def gTail (q : Bool) (r : List UInt8) : Option (Int × Bool × List UInt8) := if r = [] then some (3, q, []) else if gPar r then some (3, q, bare (gIn r)) else none
theorem gw_n {m : List UInt8} (h1 : ¬ m = wInf) (h2 : ¬ m = wInfinity) (h3 : hasPrefix m wNan = true) : gWord m = gTail false (trimPrefix m wNan) := by
  have e : trimPrefix m wNan = m.drop 3 := by unfold trimPrefix; rw [if_pos h3]; rfl
  unfold gWord gTail
  rw [if_neg (by rintro (h | h); exact h1 h; exact h2 h), if_neg (by rw [h3]; rintro ⟨h, _⟩; cases h), e, h3]
  rfl
theorem gw_s {m : List UInt8} (h1 : ¬ m = wInf) (h2 : ¬ m = wInfinity) (h3 : hasPrefix m wNan = false) (h4 : hasPrefix m wSnan = true) : gWord m = gTail true (trimPrefix m wSnan) := by
  have e : trimPrefix m wSnan = m.drop 4 := by unfold trimPrefix; rw [if_pos h4]; rfl
  unfold gWord gTail
  rw [if_neg (by rintro (h | h); exact h1 h; exact h2 h), if_neg (by rw [h4]; rintro ⟨_, h⟩; cases h), e, h3]
  rfl
theorem par_i {r : List UInt8} (h1 : hasPrefix r [40] = true) (h2 : hasSuffix (trimPrefix r [40]) [41] = true) : trimPrefix r [40] = r.drop 1 ∧ trimSuffix (trimPrefix r [40]) [41] = gIn r := by
  have e : trimPrefix r [40] = r.drop 1 := by unfold trimPrefix; rw [if_pos h1]; rfl
  refine ⟨e, ?_⟩
  unfold trimSuffix
  rw [if_pos h2, e]
  unfold gIn
  simp only [List.length_drop, List.length_singleton]
  congr 1
theorem gt_0 {q : Bool} {r : List UInt8} (h : r = []) : gTail q r = some (3, q, []) := by unfold gTail; rw [if_pos h]
theorem gt_a {q : Bool} {r : List UInt8} (h : ¬ r = []) (h1 : hasPrefix r [40] = false) : gTail q r = none := by
  unfold gTail gPar; rw [if_neg h, h1]; rfl
theorem gt_b {q : Bool} {r : List UInt8} (h : ¬ r = []) (h1 : hasPrefix r [40] = true) (h2 : hasSuffix (trimPrefix r [40]) [41] = false) : gTail q r = none := by
  have e : trimPrefix r [40] = r.drop 1 := by unfold trimPrefix; rw [if_pos h1]; rfl
  rw [e] at h2
  unfold gTail gPar; rw [if_neg h, h1, h2]; rfl
theorem dg_no {x : List UInt8} (h : gDig x = [] ∨ ¬ gOff x = []) : (!x.isEmpty && x.all isDg) = false := by
  rcases h with h | h
  · cases x with
    | nil => rfl
    | cons c r =>
      have : isDg c = false := by
        unfold gDig at h
        rw [List.takeWhile_cons] at h
        split at h
        · cases h
        · rename_i hh; simpa using hh
      simp [this]
  · rcases Bool.eq_false_or_eq_true (x.all isDg) with h1 | h1
    · exact absurd (gOff_id h1) h
    · rw [h1, Bool.and_false]
theorem dg_yes {x : List UInt8} (h : ¬ gDig x = []) (h2 : gOff x = []) : (!x.isEmpty && x.all isDg) = true ∧ gDig x = x := by
  have h1 := gOff_nil h2
  have h3 := gDig_id h1
  rw [h1, Bool.and_true]
  rw [h3] at h
  exact ⟨by simpa using h, h3⟩
theorem gt_c {q : Bool} {r : List UInt8} (h : ¬ r = []) (h1 : hasPrefix r [40] = true) (h2 : hasSuffix (trimPrefix r [40]) [41] = true) (h3 : gDig (trimSuffix (trimPrefix r [40]) [41]) = [] ∨ ¬ gOff (trimSuffix (trimPrefix r [40]) [41]) = []) : gTail q r = none := by
  obtain ⟨e1, e2⟩ := par_i h1 h2
  rw [e2] at h3
  unfold gTail gPar; rw [if_neg h, dg_no h3, Bool.and_false]; rfl
theorem gt_d {q : Bool} {r : List UInt8} (h : ¬ r = []) (h1 : hasPrefix r [40] = true) (h2 : hasSuffix (trimPrefix r [40]) [41] = true) (h3 : ¬ gDig (trimSuffix (trimPrefix r [40]) [41]) = []) (h4 : gOff (trimSuffix (trimPrefix r [40]) [41]) = []) : gTail q r = some (3, q, bare (gDig (trimSuffix (trimPrefix r [40]) [41]))) := by
  obtain ⟨e1, e2⟩ := par_i h1 h2
  rw [e1] at h2
  rw [e2] at h3 h4 ⊢
  obtain ⟨d1, d2⟩ := dg_yes h3 h4
  unfold gTail gPar; rw [if_neg h, h1, h2, d1, d2]; rfl
theorem trimPre_len (s p : List UInt8) : (trimPrefix s p).length ≤ s.length := by unfold trimPrefix; split <;> simp
theorem trimSuf_len (s p : List UInt8) : (trimSuffix s p).length ≤ s.length := by unfold trimSuffix; split <;> simp
section
variable {s : Bool} {m W P R : List UInt8}
theorem gn1 (hW : gDig m = W) (hP : gPart (gOff m) = P) (hR : gRest (gOff m) = R) (h : W ++ P = []) : gNum s m = gBad 2 := by
  unfold gNum; rw [hW, hP, if_pos h]
theorem gn2 (hW : gDig m = W) (hP : gPart (gOff m) = P) (hR : gRest (gOff m) = R) (hl : P.length ≤ 4000) (h : ¬ W ++ P = []) (h1 : R = []) : gNum s m = ⟨1, s, false, bare (W ++ P), min (max (0 - (P.length : Int)) (-1000000000)) 1000000000, 0⟩ := by
  unfold gNum; rw [hW, hP, hR, if_neg h, if_pos h1]
  rw [show min (max (0 - (P.length : Int)) (-1000000000)) 1000000000 = 0 - (P.length : Int) by omega]
theorem isE_iff {R : List UInt8} (h : ¬ R = []) : isE R = (decide ((R.getD 0 0).toNat = 101) || decide ((R.getD 0 0).toNat = 69)) := by
  cases R with
  | nil => exact absurd rfl h
  | cons c r =>
    have key : ∀ k : UInt8, (some c == some k) = decide (c.toNat = k.toNat) := fun k => by
      by_cases hc : c = k
      · subst hc; simp
      · rw [decide_eq_false (fun h => hc (UInt8.toNat_inj.1 h))]; simpa using hc
    show (some c == some 101 || some c == some 69) = _
    rw [key, key]; rfl
theorem gn3 (hW : gDig m = W) (hP : gPart (gOff m) = P) (hR : gRest (gOff m) = R) (h : ¬ W ++ P = []) (h1 : ¬ R = []) (h2 : ¬ ((R.getD 0 0).toNat : Int) = 101) (h3 : ¬ ((R.getD 0 0).toNat : Int) = 69) : gNum s m = gBad 2 := by
  unfold gNum
  rw [hW, hP, hR, if_neg h, if_neg h1, isE_iff h1, decide_eq_false (by omega), decide_eq_false (by omega)]; rfl
theorem isE_yes (h1 : ¬ R = []) (h2 : ((R.getD 0 0).toNat : Int) = 101 ∨ ((R.getD 0 0).toNat : Int) = 69) : isE R = true := by
  rw [isE_iff h1]
  rcases h2 with h2 | h2
  · rw [decide_eq_true (by omega)]; rfl
  · rw [decide_eq_true (by omega : (R.getD 0 0).toNat = 69), Bool.or_true]
theorem gn4 (hW : gDig m = W) (hP : gPart (gOff m) = P) (hR : gRest (gOff m) = R) (h : ¬ W ++ P = []) (h1 : ¬ R = []) (h2 : ((R.getD 0 0).toNat : Int) = 101 ∨ ((R.getD 0 0).toNat : Int) = 69) (h3 : expOk (R.drop 1) = false) : gNum s m = gBad 2 := by
  unfold gNum
  rw [hW, hP, hR, if_neg h, if_neg h1, h3, Bool.and_false]; rfl
theorem gn5 (hW : gDig m = W) (hP : gPart (gOff m) = P) (hR : gRest (gOff m) = R) (h : ¬ W ++ P = []) (h1 : ¬ R = []) (h2 : ((R.getD 0 0).toNat : Int) = 101 ∨ ((R.getD 0 0).toNat : Int) = 69) (h3 : expOk (R.drop 1) = true) : gNum s m = ⟨1, s, false, bare (W ++ P), min (max (expV (R.drop 1) - (P.length : Int)) (-1000000000)) 1000000000, 0⟩ := by
  unfold gNum
  rw [hW, hP, hR, if_neg h, if_neg h1, h3, isE_yes h1 h2]; rfl
end
theorem pos_of_ne {R : List UInt8} (h : ¬ R = []) : 0 < R.length := List.length_pos_iff.2 h
section
variable {c : Int} {s q : Bool} {d : List UInt8} {x : Int}
theorem bs_eqb (l r : List UInt8) : (bs l == bs r) = (l == r) := by
  rw [Go.beq_toListBytes, Bi, Bi]
theorem join_f0 (h : 4000 < (d.length : Int)) : gGood c s q d x = false := by
  rcases Bool.eq_false_or_eq_true (gGood c s q d x) with h1 | h1
  · have := (good_len h1).1; omega
  · exact h1
theorem join_f1 (h : ¬ (gCut (gText c s q d x)).e = 0) : gGood c s q d x = false := by
  rcases Bool.eq_false_or_eq_true (gGood c s q d x) with h1 | h1
  · rw [(join_iff c s q d x).2 h1] at h; exact absurd rfl h
  · exact h1
theorem join_f2 (hb : (!((gCut (gText c s q d x)).c == c && ((gCut (gText c s q d x)).s == s && ((gCut (gText c s q d x)).q == q && (bs (gCut (gText c s q d x)).d == bs d && (gCut (gText c s q d x)).x == x))))) = true) : gGood c s q d x = false := by
  rcases Bool.eq_false_or_eq_true (gGood c s q d x) with h1 | h1
  · rw [(join_iff c s q d x).2 h1, bs_eqb] at hb; simp at hb
  · exact h1
theorem join_t (he : (gCut (gText c s q d x)).e = 0) (hb : (!((gCut (gText c s q d x)).c == c && ((gCut (gText c s q d x)).s == s && ((gCut (gText c s q d x)).q == q && (bs (gCut (gText c s q d x)).d == bs d && (gCut (gText c s q d x)).x == x))))) = false) : gGood c s q d x = true := by
  rw [bs_eqb] at hb
  simp only [Bool.not_eq_false', Bool.and_eq_true, beq_iff_eq] at hb
  obtain ⟨h1, h2, h3, h4, h5⟩ := hb
  refine (join_iff c s q d x).1 ?_
  generalize gCut (gText c s q d x) = G at *
  obtain ⟨a1, a2, a3, a4, a5, a6⟩ := G
  simp only at *
  subst h1 h2 h3 h4 h5 he
  rfl
theorem gText_len (hd : d.length ≤ 10000) (hx : -9223372036854775808 ≤ x ∧ x ≤ 9223372036854775807) : (gText c s q d x).length ≤ 100000 := by
  have hi := Go.Lib.itoa_length_le x hx.1 hx.2
  have h1 : ((if s then [45] else []) : List UInt8).length ≤ 1 := by split <;> simp
  unfold gText
  split
  · unfold nanT
    have h2 : ((if q then [115] else []) : List UInt8).length ≤ 1 := by split <;> simp
    have h3 : (if d = [] then [] else 40 :: (d ++ [41])).length ≤ d.length + 2 := by split <;> simp
    rw [List.length_append]
    rcases Classical.em (c = 2) with h | h
    · rw [if_pos h]; simp only [List.length_cons, List.length_nil]; omega
    · rw [if_neg h]; simp only [List.length_append, List.length_cons, List.length_nil] at *; omega
  · have h2 : (if d = [] then [48] else d).length ≤ d.length + 1 := by split <;> simp
    have h3 : (if x = 0 then [] else 101 :: itoa x).length ≤ (itoa x).length + 1 := by split <;> simp
    simp only [List.length_append] at *
    omega
end
end Go.AM.LN
namespace Go.Proofs
open Go.Shelf Go.RowKit Go.Sort Go.Lib
def Tryz.lays103_ren : Go.Shelf.Ren :=
{
  f := fun x =>
    match x with
    | 103 => 116
    | 210 => 183
    | 206 => 223
    | n => n,
  t := fun x =>
    match x with
    | 9 => 9
    | 4 => 4
    | 24 => 142
    | 3 => 3
    | n => n,
  g := fun x => x }
theorem Tryz.lays103 : Lays.n103 Tryz.prog Tryz.lays103_ren :=
  { mixed := by kernel_rfl, f103 := Eq.trans Tryz.func116 (congrArg some (by kernel_rfl)), f206 := Eq.trans Tryz.func223 (congrArg some (by kernel_rfl)), f210 := Eq.trans Tryz.func183 (congrArg some (by kernel_rfl)), t3 := Tryz.underlying3, a3 := Tryz.isAgg3, z3 := Tryz.sizeOf3, v3 := Tryz.zeroValue3, t4 := Tryz.underlying4, a4 := Tryz.isAgg4, z4 := Tryz.sizeOf4, v4 := Tryz.zeroValue4, t9 := Tryz.underlying9, a9 := Tryz.isAgg9, z9 := Tryz.sizeOf9, v9 := Tryz.zeroValue9, t24 := Tryz.underlying142, a24 := Tryz.isAgg142, z24 := Tryz.sizeOf142, v24 := Tryz.zeroValue142 }
theorem Tryz.strings_CutPrefix (s p : ByteArray) (w : World) :
    Calls Tryz.prog 116 #[.string s, .string p] w fun e w' => e = .returned (.tuple #[.string ⟨(Lib.trimPrefix s.data.toList p.data.toList).toArray⟩, .bool (Lib.hasPrefix s.data.toList p.data.toList)]) ∧ w' = w := Any.strings_CutPrefix Tryz.lays103 s p w
def Tryz.lays104_ren : Go.Shelf.Ren :=
{
  f := fun x =>
    match x with
    | 104 => 208
    | 211 => 241
    | 207 => 265
    | n => n,
  t := fun x =>
    match x with
    | 9 => 9
    | 4 => 4
    | 24 => 142
    | 3 => 3
    | n => n,
  g := fun x => x }
theorem Tryz.lays104 : Lays.n104 Tryz.prog Tryz.lays104_ren :=
  { mixed := by kernel_rfl, f104 := Eq.trans Tryz.func208 (congrArg some (by kernel_rfl)), f207 := Eq.trans Tryz.func265 (congrArg some (by kernel_rfl)), f211 := Eq.trans Tryz.func241 (congrArg some (by kernel_rfl)), t3 := Tryz.underlying3, a3 := Tryz.isAgg3, z3 := Tryz.sizeOf3, v3 := Tryz.zeroValue3, t4 := Tryz.underlying4, a4 := Tryz.isAgg4, z4 := Tryz.sizeOf4, v4 := Tryz.zeroValue4, t9 := Tryz.underlying9, a9 := Tryz.isAgg9, z9 := Tryz.sizeOf9, v9 := Tryz.zeroValue9, t24 := Tryz.underlying142, a24 := Tryz.isAgg142, z24 := Tryz.sizeOf142, v24 := Tryz.zeroValue142 }
theorem Tryz.strings_CutSuffix (s p : ByteArray) (w : World) (hs : s.size ≤ 9223372036854775807) :
    Calls Tryz.prog 208 #[.string s, .string p] w fun e w' => e = .returned (.tuple #[.string ⟨(Lib.trimSuffix s.data.toList p.data.toList).toArray⟩, .bool (Lib.hasSuffix s.data.toList p.data.toList)]) ∧ w' = w := Any.strings_CutSuffix Tryz.lays104 s p w hs
def Tryz.lays101_ren : Go.Shelf.Ren :=
{
  f := fun x =>
    match x with
    | 101 => 181
    | 208 => 222
    | 206 => 223
    | n => n,
  t := fun x =>
    match x with
    | 9 => 9
    | 4 => 4
    | 3 => 3
    | n => n,
  g := fun x => x }
theorem Tryz.lays101 : Lays.n101 Tryz.prog Tryz.lays101_ren :=
  { mixed := by kernel_rfl, f101 := Eq.trans Tryz.func181 (congrArg some (by kernel_rfl)), f206 := Eq.trans Tryz.func223 (congrArg some (by kernel_rfl)), f208 := Eq.trans Tryz.func222 (congrArg some (by kernel_rfl)), t3 := Tryz.underlying3, a3 := Tryz.isAgg3, z3 := Tryz.sizeOf3, v3 := Tryz.zeroValue3, t4 := Tryz.underlying4, a4 := Tryz.isAgg4, z4 := Tryz.sizeOf4, v4 := Tryz.zeroValue4, t9 := Tryz.underlying9, a9 := Tryz.isAgg9, z9 := Tryz.sizeOf9, v9 := Tryz.zeroValue9 }
theorem Tryz.strings_TrimPrefix (s p : ByteArray) (w : World) :
    Calls Tryz.prog 181 #[.string s, .string p] w fun e w' => e = .returned (.string ⟨(Lib.trimPrefix s.data.toList p.data.toList).toArray⟩) ∧ w' = w := Any.strings_TrimPrefix Tryz.lays101 s p w
def Tryz.lays161_ren : Go.Shelf.Ren :=
{
  f := fun x =>
    match x with
    | 161 => 182
    | 231 => 209
    | 227 => 148
    | 233 => 210
    | 235 => 211
    | 228 => 204
    | 197 => 237
    | 151 => 206
    | 260 => 256
    | 152 => 238
    | 137 => 257
    | 119 => 258
    | 224 => 259
    | 225 => 260
    | 217 => 270
    | 266 => 272
    | n => n,
  t := fun x =>
    match x with
    | 9 => 9
    | 4 => 4
    | 3 => 3
    | 5 => 5
    | 117 => 172
    | 116 => 171
    | 0 => 0
    | 124 => 175
    | 105 => 213
    | 21 => 21
    | 119 => 263
    | 46 => 75
    | 139 => 266
    | 138 => 265
    | n => n,
  g := fun x =>
    match x with
    | 3 => 7
    | 4 => 8
    | n => n }
theorem Tryz.lays161 : Lays.n161 Tryz.prog Tryz.lays161_ren :=
  { mixed := by kernel_rfl, f119 := Eq.trans Tryz.func258 (congrArg some (by kernel_rfl)), f137 := Eq.trans Tryz.func257 (congrArg some (by kernel_rfl)), f151 := Eq.trans Tryz.func206 (congrArg some (by kernel_rfl)), f152 := Eq.trans Tryz.func238 (congrArg some (by kernel_rfl)), f161 := Eq.trans Tryz.func182 (congrArg some (by kernel_rfl)), f197 := Eq.trans Tryz.func237 (congrArg some (by kernel_rfl)), f217 := Eq.trans Tryz.func270 (congrArg some (by kernel_rfl)), f224 := Eq.trans Tryz.func259 (congrArg some (by kernel_rfl)), f225 := Eq.trans Tryz.func260 (congrArg some (by kernel_rfl)), f227 := Eq.trans Tryz.func148 (congrArg some (by kernel_rfl)), f228 := Eq.trans Tryz.func204 (congrArg some (by kernel_rfl)), f231 := Eq.trans Tryz.func209 (congrArg some (by kernel_rfl)), f233 := Eq.trans Tryz.func210 (congrArg some (by kernel_rfl)), f235 := Eq.trans Tryz.func211 (congrArg some (by kernel_rfl)), f260 := Eq.trans Tryz.func256 (congrArg some (by kernel_rfl)), f266 := Eq.trans Tryz.func272 (congrArg some (by kernel_rfl)), t0 := Tryz.underlying0, a0 := Tryz.isAgg0, z0 := Tryz.sizeOf0, v0 := Tryz.zeroValue0, t3 := Tryz.underlying3, a3 := Tryz.isAgg3, z3 := Tryz.sizeOf3, v3 := Tryz.zeroValue3, t4 := Tryz.underlying4, a4 := Tryz.isAgg4, z4 := Tryz.sizeOf4, v4 := Tryz.zeroValue4, t5 := Tryz.underlying5, a5 := Tryz.isAgg5, z5 := Tryz.sizeOf5, v5 := Tryz.zeroValue5, t9 := Tryz.underlying9, a9 := Tryz.isAgg9, z9 := Tryz.sizeOf9, v9 := Tryz.zeroValue9, t21 := Tryz.underlying21, a21 := Tryz.isAgg21, z21 := Tryz.sizeOf21, v21 := Tryz.zeroValue21, t46 := Tryz.underlying75, a46 := Tryz.isAgg75, z46 := Tryz.sizeOf75, v46 := Tryz.zeroValue75, t105 := Tryz.underlying213, a105 := Tryz.isAgg213, z105 := Tryz.sizeOf213, v105 := Tryz.zeroValue213, t116 := Tryz.underlying171, a116 := Tryz.isAgg171, z116 := Tryz.sizeOf171, t117 := Tryz.underlying172, a117 := Tryz.isAgg172, z117 := Tryz.sizeOf172, v117 := Tryz.zeroValue172, t119 := Tryz.underlying263, a119 := Tryz.isAgg263, z119 := Tryz.sizeOf263, t124 := Tryz.underlying175, a124 := Tryz.isAgg175, z124 := Tryz.sizeOf175, v124 := Tryz.zeroValue175, t138 := Tryz.underlying265, a138 := Tryz.isAgg265, z138 := Tryz.sizeOf265, v138 := Tryz.zeroValue265, t139 := Tryz.underlying266, a139 := Tryz.isAgg266, z139 := Tryz.sizeOf266, v139 := Tryz.zeroValue266, g3 := by kernel_rfl, g4 := by kernel_rfl }
theorem Tryz.strings_TrimLeft (s cutset : ByteArray) (w : World) (hcs : cutset.size < 4294967281) (hascii : ∀ (j : Nat) b, cutset.data.toList[j]? = some b → b.toNat < 128) :
    Calls Tryz.prog 182 #[.string s, .string cutset] w fun e w' => e = .returned (.string ⟨(Lib.trimLeftS s.data.toList cutset.data.toList).toArray⟩) ∧ Below w.heap.size w w' := Any.strings_TrimLeft_laid Tryz.lays161 (by kernel_rfl) s cutset w hcs hascii
def Tryz.lays160_ren : Go.Shelf.Ren :=
{
  f := fun x =>
    match x with
    | 160 => 161
    | 232 => 147
    | 231 => 209
    | 227 => 148
    | 234 => 149
    | 233 => 210
    | 236 => 150
    | 235 => 211
    | 228 => 204
    | 271 => 205
    | 151 => 206
    | 197 => 237
    | 120 => 236
    | 152 => 238
    | 260 => 256
    | 137 => 257
    | 119 => 258
    | 224 => 259
    | 225 => 260
    | 217 => 270
    | 266 => 272
    | n => n,
  t := fun x =>
    match x with
    | 9 => 9
    | 4 => 4
    | 3 => 3
    | 5 => 5
    | 117 => 172
    | 116 => 171
    | 0 => 0
    | 124 => 175
    | 21 => 21
    | 105 => 213
    | 46 => 75
    | 119 => 263
    | 139 => 266
    | 138 => 265
    | n => n,
  g := fun x =>
    match x with
    | 3 => 7
    | 4 => 8
    | n => n }
theorem Tryz.lays160 : Lays.n160 Tryz.prog Tryz.lays160_ren :=
  { mixed := by kernel_rfl, f119 := Eq.trans Tryz.func258 (congrArg some (by kernel_rfl)), f120 := Eq.trans Tryz.func236 (congrArg some (by kernel_rfl)), f137 := Eq.trans Tryz.func257 (congrArg some (by kernel_rfl)), f151 := Eq.trans Tryz.func206 (congrArg some (by kernel_rfl)), f152 := Eq.trans Tryz.func238 (congrArg some (by kernel_rfl)), f160 := Eq.trans Tryz.func161 (congrArg some (by kernel_rfl)), f197 := Eq.trans Tryz.func237 (congrArg some (by kernel_rfl)), f217 := Eq.trans Tryz.func270 (congrArg some (by kernel_rfl)), f224 := Eq.trans Tryz.func259 (congrArg some (by kernel_rfl)), f225 := Eq.trans Tryz.func260 (congrArg some (by kernel_rfl)), f227 := Eq.trans Tryz.func148 (congrArg some (by kernel_rfl)), f228 := Eq.trans Tryz.func204 (congrArg some (by kernel_rfl)), f231 := Eq.trans Tryz.func209 (congrArg some (by kernel_rfl)), f232 := Eq.trans Tryz.func147 (congrArg some (by kernel_rfl)), f233 := Eq.trans Tryz.func210 (congrArg some (by kernel_rfl)), f234 := Eq.trans Tryz.func149 (congrArg some (by kernel_rfl)), f235 := Eq.trans Tryz.func211 (congrArg some (by kernel_rfl)), f236 := Eq.trans Tryz.func150 (congrArg some (by kernel_rfl)), f260 := Eq.trans Tryz.func256 (congrArg some (by kernel_rfl)), f266 := Eq.trans Tryz.func272 (congrArg some (by kernel_rfl)), f271 := Eq.trans Tryz.func205 (congrArg some (by kernel_rfl)), t0 := Tryz.underlying0, a0 := Tryz.isAgg0, z0 := Tryz.sizeOf0, v0 := Tryz.zeroValue0, t3 := Tryz.underlying3, a3 := Tryz.isAgg3, z3 := Tryz.sizeOf3, v3 := Tryz.zeroValue3, t4 := Tryz.underlying4, a4 := Tryz.isAgg4, z4 := Tryz.sizeOf4, v4 := Tryz.zeroValue4, t5 := Tryz.underlying5, a5 := Tryz.isAgg5, z5 := Tryz.sizeOf5, v5 := Tryz.zeroValue5, t9 := Tryz.underlying9, a9 := Tryz.isAgg9, z9 := Tryz.sizeOf9, v9 := Tryz.zeroValue9, t21 := Tryz.underlying21, a21 := Tryz.isAgg21, z21 := Tryz.sizeOf21, v21 := Tryz.zeroValue21, t46 := Tryz.underlying75, a46 := Tryz.isAgg75, z46 := Tryz.sizeOf75, v46 := Tryz.zeroValue75, t105 := Tryz.underlying213, a105 := Tryz.isAgg213, z105 := Tryz.sizeOf213, v105 := Tryz.zeroValue213, t116 := Tryz.underlying171, a116 := Tryz.isAgg171, z116 := Tryz.sizeOf171, t117 := Tryz.underlying172, a117 := Tryz.isAgg172, z117 := Tryz.sizeOf172, v117 := Tryz.zeroValue172, t119 := Tryz.underlying263, a119 := Tryz.isAgg263, z119 := Tryz.sizeOf263, t124 := Tryz.underlying175, a124 := Tryz.isAgg175, z124 := Tryz.sizeOf175, v124 := Tryz.zeroValue175, t138 := Tryz.underlying265, a138 := Tryz.isAgg265, z138 := Tryz.sizeOf265, v138 := Tryz.zeroValue265, t139 := Tryz.underlying266, a139 := Tryz.isAgg266, z139 := Tryz.sizeOf266, v139 := Tryz.zeroValue266, g3 := by kernel_rfl, g4 := by kernel_rfl }
theorem Tryz.strings_Trim (s cutset : ByteArray) (w : World) (hs : s.size ≤ 9223372036854775807) (hcs : cutset.size < 4294967281) (hascii : ∀ (j : Nat) b, cutset.data.toList[j]? = some b → b.toNat < 128) :
    Calls Tryz.prog 161 #[.string s, .string cutset] w fun e w' => e = .returned (.string ⟨(Lib.trimS s.data.toList cutset.data.toList).toArray⟩) ∧ Below w.heap.size w w' := Any.strings_Trim_laid Tryz.lays160 (by kernel_rfl) s cutset w hs hcs hascii
def Tryz.laysC172_ren : Go.Shelf.Ren :=
{
  f := fun x =>
    match x with
    | 172 => 184
    | 244 => 224
    | 245 => 213
    | 247 => 249
    | 279 => 244
    | 280 => 245
    | 281 => 246
    | 282 => 247
    | 287 => 212
    | 316 => 266
    | 171 => 66
    | 205 => 267
    | 321 => 242
    | 322 => 243
    | 243 => 129
    | 246 => 191
    | 283 => 227
    | 284 => 228
    | 285 => 229
    | 286 => 230
    | 129 => 112
    | 317 => 250
    | 318 => 251
    | 319 => 252
    | 320 => 253
    | 337 => 268
    | 338 => 269
    | n => n,
  t := fun x =>
    match x with
    | 9 => 9
    | 3 => 3
    | 75 => 183
    | 76 => 195
    | 4 => 4
    | 5 => 5
    | 167 => 236
    | 37 => 131
    | 0 => 0
    | 85 => 243
    | 2 => 2
    | 168 => 238
    | 53 => 22
    | 175 => 184
    | 46 => 75
    | 210 => 260
    | 127 => 232
    | 145 => 270
    | 143 => 268
    | 21 => 21
    | 171 => 226
    | 173 => 228
    | 212 => 247
    | 51 => 68
    | 20 => 20
    | 213 => 248
    | 232 => 271
    | 233 => 272
    | 80 => 211
    | n => n,
  g := fun x =>
    match x with
    | 15 => 4
    | 16 => 5
    | 17 => 3
    | 18 => 9
    | 19 => 10
    | n => n }
theorem Tryz.laysC172 : LaysC.n172 Tryz.prog Tryz.laysC172_ren :=
  { mixed := by kernel_rfl, f129 := Eq.trans Tryz.func112 (congrArg some (by kernel_rfl)), f171 := Eq.trans Tryz.func66 (congrArg some (by kernel_rfl)), f172 := Eq.trans Tryz.func184 (congrArg some (by kernel_rfl)), f205 := Eq.trans Tryz.func267 (congrArg some (by kernel_rfl)), f243 := Eq.trans Tryz.func129 (congrArg some (by kernel_rfl)), f244 := Eq.trans Tryz.func224 (congrArg some (by kernel_rfl)), f245 := Eq.trans Tryz.func213 (congrArg some (by kernel_rfl)), f246 := Eq.trans Tryz.func191 (congrArg some (by kernel_rfl)), f247 := Eq.trans Tryz.func249 (congrArg some (by kernel_rfl)), f279 := Eq.trans Tryz.func244 (congrArg some (by kernel_rfl)), f280 := Eq.trans Tryz.func245 (congrArg some (by kernel_rfl)), f281 := Eq.trans Tryz.func246 (congrArg some (by kernel_rfl)), f282 := Eq.trans Tryz.func247 (congrArg some (by kernel_rfl)), f283 := Eq.trans Tryz.func227 (congrArg some (by kernel_rfl)), f284 := Eq.trans Tryz.func228 (congrArg some (by kernel_rfl)), f285 := Eq.trans Tryz.func229 (congrArg some (by kernel_rfl)), f286 := Eq.trans Tryz.func230 (congrArg some (by kernel_rfl)), f287 := Eq.trans Tryz.func212 (congrArg some (by kernel_rfl)), f316 := Eq.trans Tryz.func266 (congrArg some (by kernel_rfl)), f317 := Eq.trans Tryz.func250 (congrArg some (by kernel_rfl)), f318 := Eq.trans Tryz.func251 (congrArg some (by kernel_rfl)), f319 := Eq.trans Tryz.func252 (congrArg some (by kernel_rfl)), f320 := Eq.trans Tryz.func253 (congrArg some (by kernel_rfl)), f321 := Eq.trans Tryz.func242 (congrArg some (by kernel_rfl)), f322 := Eq.trans Tryz.func243 (congrArg some (by kernel_rfl)), f337 := Eq.trans Tryz.func268 (congrArg some (by kernel_rfl)), f338 := Eq.trans Tryz.func269 (congrArg some (by kernel_rfl)), t0 := Tryz.underlying0, a0 := Tryz.isAgg0, z0 := Tryz.sizeOf0, v0 := Tryz.zeroValue0, t2 := Tryz.underlying2, a2 := Tryz.isAgg2, z2 := Tryz.sizeOf2, v2 := Tryz.zeroValue2, t3 := Tryz.underlying3, a3 := Tryz.isAgg3, z3 := Tryz.sizeOf3, v3 := Tryz.zeroValue3, t4 := Tryz.underlying4, a4 := Tryz.isAgg4, z4 := Tryz.sizeOf4, v4 := Tryz.zeroValue4, t5 := Tryz.underlying5, a5 := Tryz.isAgg5, z5 := Tryz.sizeOf5, v5 := Tryz.zeroValue5, t9 := Tryz.underlying9, a9 := Tryz.isAgg9, z9 := Tryz.sizeOf9, v9 := Tryz.zeroValue9, t20 := Tryz.underlying20, a20 := Tryz.isAgg20, z20 := Tryz.sizeOf20, v20 := Tryz.zeroValue20, t21 := Tryz.underlying21, a21 := Tryz.isAgg21, z21 := Tryz.sizeOf21, v21 := Tryz.zeroValue21, t37 := Tryz.underlying131, a37 := Tryz.isAgg131, z37 := Tryz.sizeOf131, v37 := Tryz.zeroValue131, t46 := Tryz.underlying75, a46 := Tryz.isAgg75, z46 := Tryz.sizeOf75, v46 := Tryz.zeroValue75, t51 := Tryz.underlying68, a51 := Tryz.isAgg68, z51 := Tryz.sizeOf68, v51 := Tryz.zeroValue68, t53 := Tryz.underlying22, a53 := Tryz.isAgg22, z53 := Tryz.sizeOf22, v53 := Tryz.zeroValue22, t75 := Tryz.underlying183, a75 := Tryz.isAgg183, z75 := Tryz.sizeOf183, v75 := Tryz.zeroValue183, t76 := Tryz.underlying195, a76 := Tryz.isAgg195, z76 := Tryz.sizeOf195, v76 := Tryz.zeroValue195, t85 := Tryz.underlying243, a85 := Tryz.isAgg243, z85 := Tryz.sizeOf243, v85 := Tryz.zeroValue243, t127 := Tryz.underlying232, a127 := Tryz.isAgg232, z127 := Tryz.sizeOf232, v127 := Tryz.zeroValue232, t143 := Tryz.underlying268, a143 := Tryz.isAgg268, z143 := Tryz.sizeOf268, v143 := Tryz.zeroValue268, t145 := Tryz.underlying270, a145 := Tryz.isAgg270, z145 := Tryz.sizeOf270, v145 := Tryz.zeroValue270, t167 := Tryz.underlying236, a167 := Tryz.isAgg236, z167 := Tryz.sizeOf236, v167 := Tryz.zeroValue236, t168 := Tryz.underlying238, a168 := Tryz.isAgg238, z168 := Tryz.sizeOf238, v168 := Tryz.zeroValue238, t171 := Tryz.underlying226, a171 := Tryz.isAgg226, z171 := Tryz.sizeOf226, v171 := Tryz.zeroValue226, t173 := Tryz.underlying228, a173 := Tryz.isAgg228, z173 := Tryz.sizeOf228, v173 := Tryz.zeroValue228, t175 := Tryz.underlying184, a175 := Tryz.isAgg184, z175 := Tryz.sizeOf184, v175 := Tryz.zeroValue184, t210 := Tryz.underlying260, a210 := Tryz.isAgg260, z210 := Tryz.sizeOf260, v210 := Tryz.zeroValue260, t212 := Tryz.underlying247, a212 := Tryz.isAgg247, z212 := Tryz.sizeOf247, v212 := Tryz.zeroValue247, t213 := Tryz.underlying248, a213 := Tryz.isAgg248, z213 := Tryz.sizeOf248, t232 := Tryz.underlying271, a232 := Tryz.isAgg271, z232 := Tryz.sizeOf271, v232 := Tryz.zeroValue271, t233 := Tryz.underlying272, a233 := Tryz.isAgg272, z233 := Tryz.sizeOf272, v233 := Tryz.zeroValue272, g15 := by kernel_rfl, g16 := by kernel_rfl, g17 := by kernel_rfl, g18 := by kernel_rfl, g19 := by kernel_rfl, t80 := Tryz.underlying211, a80 := Tryz.isAgg211, z80 := Tryz.sizeOf211, v80 := Tryz.zeroValue211, i0 := by kernel_rfl, i2 := by kernel_rfl, i3 := by kernel_rfl, i4 := by kernel_rfl, i5 := by kernel_rfl, i9 := by kernel_rfl, i20 := by kernel_rfl, i21 := by kernel_rfl, i37 := by kernel_rfl, i46 := by kernel_rfl, i51 := by kernel_rfl, i53 := by kernel_rfl, i75 := by kernel_rfl, i76 := by kernel_rfl, i80 := by kernel_rfl, i85 := by kernel_rfl, i127 := by kernel_rfl, i143 := by kernel_rfl, i145 := by kernel_rfl, i167 := by kernel_rfl, i168 := by kernel_rfl, i171 := by kernel_rfl, i173 := by kernel_rfl, i175 := by kernel_rfl, i210 := by kernel_rfl, i212 := by kernel_rfl, i232 := by kernel_rfl, i233 := by kernel_rfl, m15 := by kernel_rfl, m16 := by kernel_rfl, m17 := by kernel_rfl, m18 := by kernel_rfl, m19 := by kernel_rfl, c0 := by kernel_rfl, c2 := by kernel_rfl, c3 := by kernel_rfl, c4 := by kernel_rfl, c5 := by kernel_rfl, c9 := by kernel_rfl, c20 := by kernel_rfl, c21 := by kernel_rfl, c37 := by kernel_rfl, c46 := by kernel_rfl, c51 := by kernel_rfl, c53 := by kernel_rfl, c75 := by kernel_rfl, c76 := by kernel_rfl, c80 := by kernel_rfl, c85 := by kernel_rfl, c127 := by kernel_rfl, c143 := by kernel_rfl, c145 := by kernel_rfl, c167 := by kernel_rfl, c168 := by kernel_rfl, c171 := by kernel_rfl, c173 := by kernel_rfl, c175 := by kernel_rfl, c210 := by kernel_rfl, c212 := by kernel_rfl, c213 := by kernel_rfl, c232 := by kernel_rfl, c233 := by kernel_rfl }
theorem Tryz.strconv_Atoi (s : ByteArray) (hmax : s.size ≤ 9223372036854775806) (v : Int) (h : Lib.atoiAll s.data.toList = .ok v) (w : World) :
    Calls Tryz.prog 184 #[.string s] w fun e w' => e = .returned (.tuple #[.int .i64 v, .nilIface]) ∧ (w' = w ∨ ∃ t, w' = Lib.bytesWorld w 5 t) := Any.strconv_Atoi_ok Tryz.laysC172 s hmax v h w
def Tryz.laysPu14_ren : Go.Shelf.Ren :=
{
  f := fun x =>
    match x with
    | 14 => 162
    | 16 => 212
    | 17 => 213
    | 19 => 242
    | 20 => 243
    | 21 => 244
    | 22 => 245
    | 23 => 246
    | 24 => 247
    | 25 => 266
    | 27 => 66
    | 26 => 267
    | 28 => 129
    | 29 => 191
    | 30 => 227
    | 31 => 228
    | 32 => 229
    | 33 => 230
    | 35 => 112
    | 34 => 250
    | 36 => 251
    | 37 => 252
    | 38 => 253
    | 39 => 268
    | 40 => 269
    | n => n,
  t := fun x =>
    match x with
    | 9 => 9
    | 3 => 3
    | 22 => 22
    | 24 => 183
    | 25 => 184
    | 4 => 4
    | 34 => 236
    | 5 => 5
    | 36 => 75
    | 37 => 131
    | 0 => 0
    | 39 => 238
    | 21 => 21
    | 44 => 260
    | 47 => 232
    | 50 => 270
    | 48 => 268
    | 2 => 2
    | 52 => 226
    | 55 => 228
    | 59 => 247
    | 60 => 68
    | 20 => 20
    | 61 => 248
    | 65 => 271
    | 66 => 272
    | 67 => 211
    | n => n,
  g := fun x =>
    match x with
    | 0 => 4
    | 1 => 5
    | 2 => 3
    | 3 => 9
    | 4 => 10
    | n => n }
theorem Tryz.laysPu14 : LaysPu.n14 Tryz.prog Tryz.laysPu14_ren :=
  { mixed := by kernel_rfl, f14 := Eq.trans Tryz.func162 (congrArg some (by kernel_rfl)), f16 := Eq.trans Tryz.func212 (congrArg some (by kernel_rfl)), f17 := Eq.trans Tryz.func213 (congrArg some (by kernel_rfl)), f19 := Eq.trans Tryz.func242 (congrArg some (by kernel_rfl)), f20 := Eq.trans Tryz.func243 (congrArg some (by kernel_rfl)), f21 := Eq.trans Tryz.func244 (congrArg some (by kernel_rfl)), f22 := Eq.trans Tryz.func245 (congrArg some (by kernel_rfl)), f23 := Eq.trans Tryz.func246 (congrArg some (by kernel_rfl)), f24 := Eq.trans Tryz.func247 (congrArg some (by kernel_rfl)), f25 := Eq.trans Tryz.func266 (congrArg some (by kernel_rfl)), f26 := Eq.trans Tryz.func267 (congrArg some (by kernel_rfl)), f27 := Eq.trans Tryz.func66 (congrArg some (by kernel_rfl)), f28 := Eq.trans Tryz.func129 (congrArg some (by kernel_rfl)), f29 := Eq.trans Tryz.func191 (congrArg some (by kernel_rfl)), f30 := Eq.trans Tryz.func227 (congrArg some (by kernel_rfl)), f31 := Eq.trans Tryz.func228 (congrArg some (by kernel_rfl)), f32 := Eq.trans Tryz.func229 (congrArg some (by kernel_rfl)), f33 := Eq.trans Tryz.func230 (congrArg some (by kernel_rfl)), f34 := Eq.trans Tryz.func250 (congrArg some (by kernel_rfl)), f35 := Eq.trans Tryz.func112 (congrArg some (by kernel_rfl)), f36 := Eq.trans Tryz.func251 (congrArg some (by kernel_rfl)), f37 := Eq.trans Tryz.func252 (congrArg some (by kernel_rfl)), f38 := Eq.trans Tryz.func253 (congrArg some (by kernel_rfl)), f39 := Eq.trans Tryz.func268 (congrArg some (by kernel_rfl)), f40 := Eq.trans Tryz.func269 (congrArg some (by kernel_rfl)), t0 := Tryz.underlying0, a0 := Tryz.isAgg0, z0 := Tryz.sizeOf0, v0 := Tryz.zeroValue0, i0 := by kernel_rfl, t2 := Tryz.underlying2, a2 := Tryz.isAgg2, z2 := Tryz.sizeOf2, v2 := Tryz.zeroValue2, i2 := by kernel_rfl, t3 := Tryz.underlying3, a3 := Tryz.isAgg3, z3 := Tryz.sizeOf3, v3 := Tryz.zeroValue3, i3 := by kernel_rfl, t4 := Tryz.underlying4, a4 := Tryz.isAgg4, z4 := Tryz.sizeOf4, v4 := Tryz.zeroValue4, i4 := by kernel_rfl, t5 := Tryz.underlying5, a5 := Tryz.isAgg5, z5 := Tryz.sizeOf5, v5 := Tryz.zeroValue5, i5 := by kernel_rfl, t9 := Tryz.underlying9, a9 := Tryz.isAgg9, z9 := Tryz.sizeOf9, v9 := Tryz.zeroValue9, i9 := by kernel_rfl, t20 := Tryz.underlying20, a20 := Tryz.isAgg20, z20 := Tryz.sizeOf20, v20 := Tryz.zeroValue20, i20 := by kernel_rfl, t21 := Tryz.underlying21, a21 := Tryz.isAgg21, z21 := Tryz.sizeOf21, v21 := Tryz.zeroValue21, i21 := by kernel_rfl, t22 := Tryz.underlying22, a22 := Tryz.isAgg22, z22 := Tryz.sizeOf22, v22 := Tryz.zeroValue22, i22 := by kernel_rfl, t24 := Tryz.underlying183, a24 := Tryz.isAgg183, z24 := Tryz.sizeOf183, v24 := Tryz.zeroValue183, i24 := by kernel_rfl, t25 := Tryz.underlying184, a25 := Tryz.isAgg184, z25 := Tryz.sizeOf184, v25 := Tryz.zeroValue184, i25 := by kernel_rfl, t34 := Tryz.underlying236, a34 := Tryz.isAgg236, z34 := Tryz.sizeOf236, v34 := Tryz.zeroValue236, i34 := by kernel_rfl, c34 := by kernel_rfl, t36 := Tryz.underlying75, a36 := Tryz.isAgg75, z36 := Tryz.sizeOf75, v36 := Tryz.zeroValue75, i36 := by kernel_rfl, t37 := Tryz.underlying131, a37 := Tryz.isAgg131, z37 := Tryz.sizeOf131, v37 := Tryz.zeroValue131, i37 := by kernel_rfl, t39 := Tryz.underlying238, a39 := Tryz.isAgg238, z39 := Tryz.sizeOf238, v39 := Tryz.zeroValue238, i39 := by kernel_rfl, t44 := Tryz.underlying260, a44 := Tryz.isAgg260, z44 := Tryz.sizeOf260, v44 := Tryz.zeroValue260, i44 := by kernel_rfl, t47 := Tryz.underlying232, a47 := Tryz.isAgg232, z47 := Tryz.sizeOf232, v47 := Tryz.zeroValue232, i47 := by kernel_rfl, t48 := Tryz.underlying268, a48 := Tryz.isAgg268, z48 := Tryz.sizeOf268, v48 := Tryz.zeroValue268, i48 := by kernel_rfl, t50 := Tryz.underlying270, a50 := Tryz.isAgg270, z50 := Tryz.sizeOf270, v50 := Tryz.zeroValue270, i50 := by kernel_rfl, t52 := Tryz.underlying226, a52 := Tryz.isAgg226, z52 := Tryz.sizeOf226, v52 := Tryz.zeroValue226, i52 := by kernel_rfl, t55 := Tryz.underlying228, a55 := Tryz.isAgg228, z55 := Tryz.sizeOf228, v55 := Tryz.zeroValue228, i55 := by kernel_rfl, t59 := Tryz.underlying247, a59 := Tryz.isAgg247, z59 := Tryz.sizeOf247, v59 := Tryz.zeroValue247, i59 := by kernel_rfl, t60 := Tryz.underlying68, a60 := Tryz.isAgg68, z60 := Tryz.sizeOf68, v60 := Tryz.zeroValue68, i60 := by kernel_rfl, t61 := Tryz.underlying248, a61 := Tryz.isAgg248, z61 := Tryz.sizeOf248, t65 := Tryz.underlying271, a65 := Tryz.isAgg271, z65 := Tryz.sizeOf271, v65 := Tryz.zeroValue271, i65 := by kernel_rfl, t66 := Tryz.underlying272, a66 := Tryz.isAgg272, z66 := Tryz.sizeOf272, v66 := Tryz.zeroValue272, i66 := by kernel_rfl, t67 := Tryz.underlying211, a67 := Tryz.isAgg211, z67 := Tryz.sizeOf211, v67 := Tryz.zeroValue211, i67 := by kernel_rfl, g0 := by kernel_rfl, m0 := by kernel_rfl, g1 := by kernel_rfl, m1 := by kernel_rfl, g2 := by kernel_rfl, m2 := by kernel_rfl, g3 := by kernel_rfl, m3 := by kernel_rfl, g4 := by kernel_rfl, m4 := by kernel_rfl }
theorem Tryz.strconv_ParseUint (s : ByteArray) (hmax : s.size ≤ 9223372036854775806) (u : Nat) (h : Lib.parseUintB 64 s.data.toList = .ok u) (w : World) :
    Calls Tryz.prog 162 #[.string s, .int .i64 10, .int .i64 64] w fun e w' => e = .returned (.tuple #[.int .u64 u, .nilIface]) ∧ (w' = w ∨ w' = Lib.bytesWorld w 5 s) := Any.strconv_ParseUint_10_at64_ok Tryz.laysPu14 s hmax u h w
def Tryz.laysM171_ren : Go.Shelf.Ren :=
{
  f := fun x =>
    match x with
    | 171 => 66
    | 243 => 129
    | 246 => 191
    | 283 => 227
    | 284 => 228
    | 285 => 229
    | 286 => 230
    | 129 => 112
    | 317 => 250
    | 318 => 251
    | 319 => 252
    | 320 => 253
    | 337 => 268
    | 338 => 269
    | n => n,
  t := fun x =>
    match x with
    | 3 => 3
    | 9 => 9
    | 2 => 2
    | 4 => 4
    | 171 => 226
    | 0 => 0
    | 53 => 22
    | 37 => 131
    | 5 => 5
    | 173 => 228
    | 212 => 247
    | 51 => 68
    | 20 => 20
    | 213 => 248
    | 46 => 75
    | 232 => 271
    | 233 => 272
    | n => n,
  g := fun x =>
    match x with
    | 17 => 3
    | 18 => 9
    | 19 => 10
    | n => n }
theorem Tryz.laysM171 : LaysM.n171 Tryz.prog Tryz.laysM171_ren :=
  { mixed := by kernel_rfl, f129 := Eq.trans Tryz.func112 (congrArg some (by kernel_rfl)), f171 := Eq.trans Tryz.func66 (congrArg some (by kernel_rfl)), f243 := Eq.trans Tryz.func129 (congrArg some (by kernel_rfl)), f246 := Eq.trans Tryz.func191 (congrArg some (by kernel_rfl)), f283 := Eq.trans Tryz.func227 (congrArg some (by kernel_rfl)), f284 := Eq.trans Tryz.func228 (congrArg some (by kernel_rfl)), f285 := Eq.trans Tryz.func229 (congrArg some (by kernel_rfl)), f286 := Eq.trans Tryz.func230 (congrArg some (by kernel_rfl)), f317 := Eq.trans Tryz.func250 (congrArg some (by kernel_rfl)), f318 := Eq.trans Tryz.func251 (congrArg some (by kernel_rfl)), f319 := Eq.trans Tryz.func252 (congrArg some (by kernel_rfl)), f320 := Eq.trans Tryz.func253 (congrArg some (by kernel_rfl)), f337 := Eq.trans Tryz.func268 (congrArg some (by kernel_rfl)), f338 := Eq.trans Tryz.func269 (congrArg some (by kernel_rfl)), t0 := Tryz.underlying0, a0 := Tryz.isAgg0, z0 := Tryz.sizeOf0, v0 := Tryz.zeroValue0, t2 := Tryz.underlying2, a2 := Tryz.isAgg2, z2 := Tryz.sizeOf2, v2 := Tryz.zeroValue2, t3 := Tryz.underlying3, a3 := Tryz.isAgg3, z3 := Tryz.sizeOf3, v3 := Tryz.zeroValue3, t4 := Tryz.underlying4, a4 := Tryz.isAgg4, z4 := Tryz.sizeOf4, v4 := Tryz.zeroValue4, t5 := Tryz.underlying5, a5 := Tryz.isAgg5, z5 := Tryz.sizeOf5, v5 := Tryz.zeroValue5, t9 := Tryz.underlying9, a9 := Tryz.isAgg9, z9 := Tryz.sizeOf9, v9 := Tryz.zeroValue9, t20 := Tryz.underlying20, a20 := Tryz.isAgg20, z20 := Tryz.sizeOf20, v20 := Tryz.zeroValue20, t37 := Tryz.underlying131, a37 := Tryz.isAgg131, z37 := Tryz.sizeOf131, v37 := Tryz.zeroValue131, t46 := Tryz.underlying75, a46 := Tryz.isAgg75, z46 := Tryz.sizeOf75, v46 := Tryz.zeroValue75, t51 := Tryz.underlying68, a51 := Tryz.isAgg68, z51 := Tryz.sizeOf68, v51 := Tryz.zeroValue68, t53 := Tryz.underlying22, a53 := Tryz.isAgg22, z53 := Tryz.sizeOf22, v53 := Tryz.zeroValue22, t171 := Tryz.underlying226, a171 := Tryz.isAgg226, z171 := Tryz.sizeOf226, v171 := Tryz.zeroValue226, t173 := Tryz.underlying228, a173 := Tryz.isAgg228, z173 := Tryz.sizeOf228, v173 := Tryz.zeroValue228, t212 := Tryz.underlying247, a212 := Tryz.isAgg247, z212 := Tryz.sizeOf247, v212 := Tryz.zeroValue247, t213 := Tryz.underlying248, a213 := Tryz.isAgg248, z213 := Tryz.sizeOf248, t232 := Tryz.underlying271, a232 := Tryz.isAgg271, z232 := Tryz.sizeOf271, v232 := Tryz.zeroValue271, t233 := Tryz.underlying272, a233 := Tryz.isAgg272, z233 := Tryz.sizeOf272, v233 := Tryz.zeroValue272, g17 := by kernel_rfl, g18 := by kernel_rfl, g19 := by kernel_rfl, i0 := by kernel_rfl, i2 := by kernel_rfl, i3 := by kernel_rfl, i4 := by kernel_rfl, i5 := by kernel_rfl, i9 := by kernel_rfl, i20 := by kernel_rfl, i37 := by kernel_rfl, i46 := by kernel_rfl, i51 := by kernel_rfl, i53 := by kernel_rfl, i171 := by kernel_rfl, i173 := by kernel_rfl, i212 := by kernel_rfl, i232 := by kernel_rfl, i233 := by kernel_rfl, m17 := by kernel_rfl, m18 := by kernel_rfl, m19 := by kernel_rfl }
theorem Tryz.strconv_Itoa (n : Int) (h0 : -9223372036854775808 ≤ n) (h1 : n ≤ 9223372036854775807) (w : World) (htab : Lib.TabIs Tryz.prog w "internal/strconv.uint64pow10" .u64 Lib.pow10Tab) :
    Calls Tryz.prog 66 #[.int .i64 n] w fun e w' => e = .returned (.string ⟨(Lib.itoa n).toArray⟩) ∧ ∃ k os, w' = grow (w.drewN k) os := Any.strconv_Itoa Tryz.laysM171 n h0 h1 w htab
def Tryz.lays230_ren : Go.Shelf.Ren :=
{
  f := fun x =>
    match x with
    | 230 => 239
    | 197 => 237
    | 118 => 261
    | 165 => 200
    | 166 => 201
    | 168 => 262
    | 270 => 263
    | 167 => 264
    | 169 => 203
    | 260 => 256
    | 240 => 234
    | 241 => 235
    | 242 => 271
    | 276 => 254
    | 277 => 255
    | 278 => 273
    | n => n,
  t := fun x =>
    match x with
    | 107 => 235
    | 9 => 9
    | 72 => 208
    | 0 => 0
    | 4 => 4
    | 3 => 3
    | 21 => 21
    | 105 => 213
    | 76 => 195
    | 5 => 5
    | 75 => 183
    | 70 => 206
    | 20 => 20
    | 37 => 131
    | 127 => 232
    | 119 => 263
    | 46 => 75
    | 139 => 266
    | 138 => 265
    | 164 => 250
    | 51 => 68
    | 80 => 211
    | n => n,
  g := fun x =>
    match x with
    | 3 => 7
    | 4 => 8
    | n => n }
theorem Tryz.lays230 : Lays.n230 Tryz.prog Tryz.lays230_ren :=
  { mixed := by kernel_rfl, f118 := Eq.trans Tryz.func261 (congrArg some (by kernel_rfl)), f165 := Eq.trans Tryz.func200 (congrArg some (by kernel_rfl)), f166 := Eq.trans Tryz.func201 (congrArg some (by kernel_rfl)), f167 := Eq.trans Tryz.func264 (congrArg some (by kernel_rfl)), f168 := Eq.trans Tryz.func262 (congrArg some (by kernel_rfl)), f169 := Eq.trans Tryz.func203 (congrArg some (by kernel_rfl)), f197 := Eq.trans Tryz.func237 (congrArg some (by kernel_rfl)), f230 := Eq.trans Tryz.func239 (congrArg some (by kernel_rfl)), f240 := Eq.trans Tryz.func234 (congrArg some (by kernel_rfl)), f241 := Eq.trans Tryz.func235 (congrArg some (by kernel_rfl)), f242 := Eq.trans Tryz.func271 (congrArg some (by kernel_rfl)), f260 := Eq.trans Tryz.func256 (congrArg some (by kernel_rfl)), f270 := Eq.trans Tryz.func263 (congrArg some (by kernel_rfl)), f276 := Eq.trans Tryz.func254 (congrArg some (by kernel_rfl)), f277 := Eq.trans Tryz.func255 (congrArg some (by kernel_rfl)), f278 := Eq.trans Tryz.func273 (congrArg some (by kernel_rfl)), t0 := Tryz.underlying0, a0 := Tryz.isAgg0, z0 := Tryz.sizeOf0, v0 := Tryz.zeroValue0, t3 := Tryz.underlying3, a3 := Tryz.isAgg3, z3 := Tryz.sizeOf3, v3 := Tryz.zeroValue3, t4 := Tryz.underlying4, a4 := Tryz.isAgg4, z4 := Tryz.sizeOf4, v4 := Tryz.zeroValue4, t5 := Tryz.underlying5, a5 := Tryz.isAgg5, z5 := Tryz.sizeOf5, v5 := Tryz.zeroValue5, t9 := Tryz.underlying9, a9 := Tryz.isAgg9, z9 := Tryz.sizeOf9, v9 := Tryz.zeroValue9, t20 := Tryz.underlying20, a20 := Tryz.isAgg20, z20 := Tryz.sizeOf20, v20 := Tryz.zeroValue20, t21 := Tryz.underlying21, a21 := Tryz.isAgg21, z21 := Tryz.sizeOf21, v21 := Tryz.zeroValue21, t37 := Tryz.underlying131, a37 := Tryz.isAgg131, z37 := Tryz.sizeOf131, v37 := Tryz.zeroValue131, t46 := Tryz.underlying75, a46 := Tryz.isAgg75, z46 := Tryz.sizeOf75, v46 := Tryz.zeroValue75, t51 := Tryz.underlying68, a51 := Tryz.isAgg68, z51 := Tryz.sizeOf68, v51 := Tryz.zeroValue68, t70 := Tryz.underlying206, a70 := Tryz.isAgg206, z70 := Tryz.sizeOf206, v70 := Tryz.zeroValue206, t72 := Tryz.underlying208, a72 := Tryz.isAgg208, z72 := Tryz.sizeOf208, v72 := Tryz.zeroValue208, t75 := Tryz.underlying183, a75 := Tryz.isAgg183, z75 := Tryz.sizeOf183, v75 := Tryz.zeroValue183, t76 := Tryz.underlying195, a76 := Tryz.isAgg195, z76 := Tryz.sizeOf195, v76 := Tryz.zeroValue195, t105 := Tryz.underlying213, a105 := Tryz.isAgg213, z105 := Tryz.sizeOf213, v105 := Tryz.zeroValue213, t107 := Tryz.underlying235, a107 := Tryz.isAgg235, z107 := Tryz.sizeOf235, v107 := Tryz.zeroValue235, t119 := Tryz.underlying263, a119 := Tryz.isAgg263, z119 := Tryz.sizeOf263, t127 := Tryz.underlying232, a127 := Tryz.isAgg232, z127 := Tryz.sizeOf232, v127 := Tryz.zeroValue232, t138 := Tryz.underlying265, a138 := Tryz.isAgg265, z138 := Tryz.sizeOf265, v138 := Tryz.zeroValue265, t139 := Tryz.underlying266, a139 := Tryz.isAgg266, z139 := Tryz.sizeOf266, v139 := Tryz.zeroValue266, t164 := Tryz.underlying250, a164 := Tryz.isAgg250, z164 := Tryz.sizeOf250, v164 := Tryz.zeroValue250, g3 := by kernel_rfl, g4 := by kernel_rfl }
theorem Tryz.builder_extra : Builder.Extra Tryz.prog Tryz.lays230_ren where
  sizeBuilder := by kernel_rfl
  liesBuilder := by kernel_rfl
  t5 := Tryz.underlying5
  a5 := Tryz.isAgg5
  z5 := Tryz.sizeOf5
  v5 := Tryz.zeroValue5
  infoByte := by kernel_rfl
  cellsByte := by kernel_rfl
  sizeByte := by kernel_rfl
  neB5 := by decide
theorem Tryz.strings_Map (g : Nat) (lb : Array Value) (eg : ∀ args w, (callFunc g args).run Tryz.prog w = .ok (.enter g args) w) (f : Int → Int) (s : ByteArray) (w : World) (hs : s.size < 35184372088832)
    (hf : MapAtRunes Tryz.prog g lb f w) (hnn : ∀ x : Nat, x ≤ 1114111 → 0 ≤ f x ∧ f x ≤ 2147483647) (hT : Lib.Utf8Tabs 7 8 w) :
    Calls Tryz.prog 239 #[.func (.func g) #[] lb, .string s] w fun e w' => e = .returned (.string ⟨(Lib.mapD f s.data.toList).toArray⟩) ∧ Below w.heap.size w w' := Any.strings_Map_runes Tryz.lays230 Tryz.builder_extra g lb eg f s w hs hf hnn hT
end Go.Proofs
set_option maxRecDepth 20000
namespace Go.Proofs.AMT
open Go Go.Shelf Go.RowKit Go.Sort Go.Lib Go.AM Go.AM.LN
theorem below_grow (w : World) (k : Nat) (os : Array Obj) : Below w.heap.size w (Go.Sort.grow (w.drewN k) os) := by
  refine ⟨rfl, rfl, rfl, ?_, fun j hj => ?_⟩
  · show w.heap.size ≤ (w.heap ++ os).size
    simp
  · show (w.heap ++ os)[j]? = w.heap[j]?
    rw [Array.getElem?_append_left hj]
theorem below_bytes (w : World) (e : TypeId) (s : ByteArray) : Below w.heap.size w (Lib.bytesWorld w e s) :=
  ⟨rfl, rfl, rfl, by rw [Lib.bytesWorld_size]; omega, fun j hj => Lib.bytesWorld_at_old w e s j hj⟩
theorem asc10 : ∀ (j : Nat) b, cs10[j]? = some b → b.toNat < 128 := ascii_of_all (by decide)
theorem asc48 : ∀ (j : Nat) b, ([48] : List UInt8)[j]? = some b → b.toNat < 128 := ascii_of_all (by decide)
noncomputable def lCutPre : Cs := fun ds => match ds with
  | [.v (.string s), .v (.string c)] => some (True, .many [.v (.string (bs (trimPrefix s.data.toList c.data.toList))), .v (.bool (hasPrefix s.data.toList c.data.toList))])
  | _ => none
theorem lCutPre_eq (s c : ByteArray) : norm lCutPre [.v (.string s), .v (.string c)] = some (True, .many [.v (.string (bs (trimPrefix s.data.toList c.data.toList))), .v (.bool (hasPrefix s.data.toList c.data.toList))]) := rfl
theorem snd_lCutPre : Sound Tryz.prog 116 .body (norm lCutPre) := by
  refine Sn ⟨Tryz.f116, Tryz.func116, by kernel_rfl, by kernel_rfl, fun ds p r hs hp w vs hT hr => ?_⟩
  unfold lCutPre at hs
  split at hs
  · rename_i s c
    cases hs
    match vs, hr with
    | [v0, v1], ⟨h0, h1, _⟩ =>
      have h0' : v0 = .string s := h0
      have h1' : v1 = .string c := h1
      subst h0' h1'
      refine (Tryz.strings_CutPrefix s c w).mono ?_
      rintro e w' ⟨rfl, rfl⟩
      exact ⟨_, rfl, Below.refl _ _, [.string (bs (trimPrefix s.data.toList c.data.toList)), .bool (hasPrefix s.data.toList c.data.toList)], rfl, ⟨rfl, rfl, trivial⟩, by simp [freshBs]⟩
  · cases hs
noncomputable def lCutSuf : Cs := fun ds => match ds with
  | [.v (.string s), .v (.string c)] => some (s.size ≤ 1000000, .many [.v (.string (bs (trimSuffix s.data.toList c.data.toList))), .v (.bool (hasSuffix s.data.toList c.data.toList))])
  | _ => none
theorem lCutSuf_eq (s c : ByteArray) : norm lCutSuf [.v (.string s), .v (.string c)] = some (s.size ≤ 1000000, .many [.v (.string (bs (trimSuffix s.data.toList c.data.toList))), .v (.bool (hasSuffix s.data.toList c.data.toList))]) := rfl
theorem snd_lCutSuf : Sound Tryz.prog 208 .body (norm lCutSuf) := by
  refine Sn ⟨Tryz.f208, Tryz.func208, by kernel_rfl, by kernel_rfl, fun ds p r hs hp w vs hT hr => ?_⟩
  unfold lCutSuf at hs
  split at hs
  · rename_i s c
    cases hs
    match vs, hr with
    | [v0, v1], ⟨h0, h1, _⟩ =>
      have h0' : v0 = .string s := h0
      have h1' : v1 = .string c := h1
      subst h0' h1'
      refine (Tryz.strings_CutSuffix s c w (Nat.le_trans hp (by decide))).mono ?_
      rintro e w' ⟨rfl, rfl⟩
      exact ⟨_, rfl, Below.refl _ _, [.string (bs (trimSuffix s.data.toList c.data.toList)), .bool (hasSuffix s.data.toList c.data.toList)], rfl, ⟨rfl, rfl, trivial⟩, by simp [freshBs]⟩
  · cases hs
noncomputable def lTrimPre : Cs := fun ds => match ds with
  | [.v (.string s), .v (.string c)] => some (True, .one (.v (.string (bs (trimPrefix s.data.toList c.data.toList)))))
  | _ => none
theorem lTrimPre_eq (s c : ByteArray) : norm lTrimPre [.v (.string s), .v (.string c)] = some (True, .one (.v (.string (bs (trimPrefix s.data.toList c.data.toList))))) := rfl
theorem snd_lTrimPre : Sound Tryz.prog 181 .body (norm lTrimPre) := by
  refine Sn ⟨Tryz.f181, Tryz.func181, by kernel_rfl, by kernel_rfl, fun ds p r hs hp w vs hT hr => ?_⟩
  unfold lTrimPre at hs
  split at hs
  · rename_i s c
    cases hs
    match vs, hr with
    | [v0, v1], ⟨h0, h1, _⟩ =>
      have h0' : v0 = .string s := h0
      have h1' : v1 = .string c := h1
      subst h0' h1'
      refine (Tryz.strings_TrimPrefix s c w).mono ?_
      rintro e w' ⟨rfl, rfl⟩
      exact ⟨_, rfl, Below.refl _ _, rfl⟩
  · cases hs
noncomputable def lTrimL : Cs := fun ds => match ds with
  | [.v (.string s), .v (.string c)] => some (c = ⟨#[48]⟩ ∨ c = ⟨#[48, 49, 50, 51, 52, 53, 54, 55, 56, 57]⟩, .one (.v (.string (bs (trimLeftS s.data.toList c.data.toList)))))
  | _ => none
theorem lTrimL_eq (s c : ByteArray) : norm lTrimL [.v (.string s), .v (.string c)] = some (c = ⟨#[48]⟩ ∨ c = ⟨#[48, 49, 50, 51, 52, 53, 54, 55, 56, 57]⟩, .one (.v (.string (bs (trimLeftS s.data.toList c.data.toList))))) := rfl
theorem snd_lTrimL : Sound Tryz.prog 182 .body (norm lTrimL) := by
  refine Sn ⟨Tryz.f182, Tryz.func182, by kernel_rfl, by kernel_rfl, fun ds p r hs hp w vs hT hr => ?_⟩
  unfold lTrimL at hs
  split at hs
  · rename_i s c
    cases hs
    match vs, hr with
    | [v0, v1], ⟨h0, h1, _⟩ =>
      have h0' : v0 = .string s := h0
      have h1' : v1 = .string c := h1
      subst h0' h1'
      have ha : ∀ (j : Nat) b, c.data.toList[j]? = some b → b.toNat < 128 := by
        rcases hp with rfl | rfl
        · exact asc48
        · exact asc10
      have hc : c.size < 4294967281 := by rcases hp with rfl | rfl <;> decide
      refine (Tryz.strings_TrimLeft s c w hc ha).mono ?_
      rintro e w' ⟨rfl, hb⟩
      exact ⟨_, rfl, hb, rfl⟩
  · cases hs
noncomputable def lTrim : Cs := fun ds => match ds with
  | [.v (.string s), .v (.string c)] => some (s.size ≤ 1000000 ∧ (c = ⟨#[48]⟩ ∨ c = ⟨#[48, 49, 50, 51, 52, 53, 54, 55, 56, 57]⟩), .one (.v (.string (bs (trimS s.data.toList c.data.toList)))))
  | _ => none
theorem lTrim_eq (s c : ByteArray) : norm lTrim [.v (.string s), .v (.string c)] = some (s.size ≤ 1000000 ∧ (c = ⟨#[48]⟩ ∨ c = ⟨#[48, 49, 50, 51, 52, 53, 54, 55, 56, 57]⟩), .one (.v (.string (bs (trimS s.data.toList c.data.toList))))) := rfl
theorem snd_lTrim : Sound Tryz.prog 161 .body (norm lTrim) := by
  refine Sn ⟨Tryz.f161, Tryz.func161, by kernel_rfl, by kernel_rfl, fun ds p r hs hp w vs hT hr => ?_⟩
  unfold lTrim at hs
  split at hs
  · rename_i s c
    cases hs
    match vs, hr with
    | [v0, v1], ⟨h0, h1, _⟩ =>
      have h0' : v0 = .string s := h0
      have h1' : v1 = .string c := h1
      subst h0' h1'
      obtain ⟨hz, hp⟩ := hp
      have ha : ∀ (j : Nat) b, c.data.toList[j]? = some b → b.toNat < 128 := by
        rcases hp with rfl | rfl
        · exact asc48
        · exact asc10
      have hc : c.size < 4294967281 := by rcases hp with rfl | rfl <;> decide
      refine (Tryz.strings_Trim s c w (Nat.le_trans hz (by decide)) hc ha).mono ?_
      rintro e w' ⟨rfl, hb⟩
      exact ⟨_, rfl, hb, rfl⟩
  · cases hs
noncomputable def lAtoi : Cs := fun ds => match ds with
  | [.v (.string s)] => some (∃ l : List UInt8, l.all isDg = true ∧ l.length ≤ 11 ∧ s = bs (48 :: l), .many [.v (.int .i64 (dv s.data.toList)), .v .nilIface])
  | _ => none
theorem lAtoi_eq (s : ByteArray) : norm lAtoi [.v (.string s)] = some (∃ l : List UInt8, l.all isDg = true ∧ l.length ≤ 11 ∧ s = bs (48 :: l), .many [.v (.int .i64 (dv s.data.toList)), .v .nilIface]) := rfl
theorem snd_lAtoi : Sound Tryz.prog 184 .body (norm lAtoi) := by
  refine Sn ⟨Tryz.f184, Tryz.func184, by kernel_rfl, by kernel_rfl, fun ds p r hs hp w vs hT hr => ?_⟩
  unfold lAtoi at hs
  split at hs
  · rename_i s
    cases hs
    match vs, hr with
    | [v0], ⟨h0, _⟩ =>
      have h0' : v0 = .string s := h0
      subst h0'
      obtain ⟨l, ha, hl, rfl⟩ := hp
      refine (Tryz.strconv_Atoi (bs (48 :: l)) (by rw [Bz]; simp; omega) (dv l : Int) (by rw [Bd]; exact atoi_dv ha hl) w).mono ?_
      rintro e w' ⟨rfl, hw⟩
      have hb : Below w.heap.size w w' := by
        rcases hw with rfl | ⟨t, rfl⟩
        · exact Below.refl _ _
        · exact below_bytes _ _ _
      have e0 : dv (48 :: l) = dv l := by rw [dv_cons]; simp
      rw [Bd, e0]
      exact ⟨_, rfl, hb, [.int .i64 (dv l), .nilIface], rfl, ⟨rfl, rfl, trivial⟩, by simp [freshBs]⟩
  · cases hs
theorem parseU_dv {s : ByteArray} (ha : s.data.toList.all isDg = true) (hn : s.data.toList ≠ []) (hl : s.size ≤ 19) : parseUintB 64 s.data.toList = .ok (dv s.data.toList) := by
  have h1 := dv_lt _ ha
  have h2 : 10 ^ s.data.toList.length ≤ 10 ^ 19 := Nat.pow_le_pow_right (by decide) (by rw [← Lib.size_eq]; exact hl)
  unfold parseUintB
  rw [if_neg hn]
  have := parse_dv (2 ^ 64 - 1) (by decide) s.data.toList 0 ha (by omega)
  simpa using this
noncomputable def lParse : Cs := fun ds => match ds with
  | [.v (.string s), .v (.int .i64 a), .v (.int .i64 b)] => some (((s.data.toList.all isDg = true ∧ s.data.toList ≠ []) ∧ s.size ≤ 19) ∧ a = 10 ∧ b = 64, .many [.v (.int .u64 (dv s.data.toList)), .v .nilIface])
  | _ => none
theorem lParse_eq (s : ByteArray) (a b : Int) : norm lParse [.v (.string s), .v (.int .i64 a), .v (.int .i64 b)] = some (((s.data.toList.all isDg = true ∧ s.data.toList ≠ []) ∧ s.size ≤ 19) ∧ a = 10 ∧ b = 64, .many [.v (.int .u64 (dv s.data.toList)), .v .nilIface]) := rfl
theorem snd_lParse : Sound Tryz.prog 162 .body (norm lParse) := by
  refine Sn ⟨Tryz.f162, Tryz.func162, by kernel_rfl, by kernel_rfl, fun ds p r hs hp w vs hT hr => ?_⟩
  unfold lParse at hs
  split at hs
  · rename_i s a b
    cases hs
    match vs, hr with
    | [v0, v1, v2], ⟨h0, h1, h2, _⟩ =>
      have h0' : v0 = .string s := h0
      have h1' : v1 = .int .i64 a := h1
      have h2' : v2 = .int .i64 b := h2
      subst h0' h1' h2'
      obtain ⟨⟨⟨ha, hn⟩, hl⟩, rfl, rfl⟩ := hp
      refine (Tryz.strconv_ParseUint s (by omega) (dv s.data.toList) (parseU_dv ha hn hl) w).mono ?_
      rintro e w' ⟨rfl, hw⟩
      have hb : Below w.heap.size w w' := by
        rcases hw with rfl | rfl
        · exact Below.refl _ _
        · exact below_bytes _ _ _
      exact ⟨_, rfl, hb, [.int .u64 (dv s.data.toList), .nilIface], rfl, ⟨rfl, rfl, trivial⟩, by simp [freshBs]⟩
  · cases hs
noncomputable def lItoa : Cs := fun ds => match ds with
  | [.v (.int .i64 n)] => some (-9223372036854775808 ≤ n ∧ n ≤ 9223372036854775807, .one (.v (.string (bs (itoa n)))))
  | _ => none
theorem lItoa_eq (n : Int) : norm lItoa [.v (.int .i64 n)] = some (-9223372036854775808 ≤ n ∧ n ≤ 9223372036854775807, .one (.v (.string (bs (itoa n))))) := rfl
theorem snd_lItoa : Sound Tryz.prog 66 .body (norm lItoa) := by
  refine Sn ⟨Tryz.f66, Tryz.func66, by kernel_rfl, by kernel_rfl, fun ds p r hs hp w vs hT hr => ?_⟩
  unfold lItoa at hs
  split at hs
  · rename_i n
    cases hs
    match vs, hr with
    | [v0], ⟨h0, _⟩ =>
      have h0' : v0 = .int .i64 n := h0
      subst h0'
      refine (Tryz.strconv_Itoa n hp.1 hp.2 w hT.2).mono ?_
      rintro e w' ⟨rfl, k, os, rfl⟩
      exact ⟨_, rfl, below_grow w k os, rfl⟩
  · cases hs
theorem low_c (w : World) : MapAtRunes Tryz.prog 240 #[] lowF w := by
  intro W x hx hb
  unfold FnGives lowF
  have hcase : (65 ≤ (x : Int) ∧ (x : Int) ≤ 90) ∨ ¬ (65 ≤ (x : Int) ∧ (x : Int) ≤ 90) := by omega
  rcases hcase with hc | hc
  · rw [if_pos hc]
    show Calls Tryz.prog 240 #[.int .i32 (x : Int)] W _
    go_enter Tryz.func240, Tryz.ntmps240
    go_wp2
    go_ret
    exact ⟨by rw [show (x : Int) + 97 - 65 = (x : Int) + 32 by omega]; rfl, 0, rfl⟩
  · rw [if_neg hc]
    show Calls Tryz.prog 240 #[.int .i32 (x : Int)] W _
    go_enter Tryz.func240, Tryz.ntmps240
    go_wp2
    all_goals (go_ret; exact ⟨rfl, 0, rfl⟩)
noncomputable def lMap : Cs := fun ds => match ds with
  | [.v (.func f a b), .v (.string s)] => some ((f = .func 240 ∧ a = #[] ∧ b = #[]) ∧ s.size ≤ 1000000, .one (.v (.string (bs (mapD lowF s.data.toList)))))
  | _ => none
theorem lMap_eq (f : Fn) (a : Array Value) (b : Array Value) (s : ByteArray) : norm lMap [.v (.func f a b), .v (.string s)] = some ((f = .func 240 ∧ a = #[] ∧ b = #[]) ∧ s.size ≤ 1000000, .one (.v (.string (bs (mapD lowF s.data.toList))))) := rfl
theorem snd_lMap : Sound Tryz.prog 239 .body (norm lMap) := by
  refine Sn ⟨Tryz.f239, Tryz.func239, by kernel_rfl, by kernel_rfl, fun ds p r hs hp w vs hT hr => ?_⟩
  unfold lMap at hs
  split at hs
  · rename_i f a b s
    cases hs
    match vs, hr with
    | [v0, v1], ⟨h0, h1, _⟩ =>
      have h0' : v0 = .func f a b := h0
      have h1' : v1 = .string s := h1
      subst h0' h1'
      obtain ⟨⟨rfl, rfl, rfl⟩, hz⟩ := hp
      refine (Tryz.strings_Map 240 #[] (enters_of Tryz.func240 (by kernel_rfl) rfl) lowF s w (by omega) (low_c w) (fun x hx => by unfold lowF; split <;> omega) hT.1).mono ?_
      rintro e w' ⟨rfl, hb⟩
      exact ⟨_, rfl, hb, rfl⟩
  · cases hs
end Go.Proofs.AMT
set_option maxRecDepth 20000
namespace Go.Proofs.AMT
open Go.AM Go.AM.LN
attribute [local congr] bindO_congr bindS_congr bindG_congr awpOps_congr aOne_congr awp_congr aCond_congr awpD_congr dOne_congr keysB_congr nOne_congr thenP_congr blockP_congr Chk_congr Brk_congr
noncomputable def s114 : Cs := fun ds => match ds with
  | [.v (.string s)] => some (True, .many [.v (.bool (sgnN s.data.toList)), .v (.string (bs (sgnR s.data.toList)))])
  | _ => none
theorem s114_eq (s : ByteArray) : norm s114 [.v (.string s)] = s114 [.v (.string s)] := rfl
noncomputable def G114 : Gam := [(116, .body, norm lCutPre), (181, .body, norm lTrimPre)]
theorem G114_ok : Gk Tryz.prog G114 := Gc snd_lCutPre (Gc snd_lTrimPre Gn)
theorem k114_116 : lk G114 116 = some (.body, norm lCutPre) := rfl
theorem k114_181 : lk G114 181 = some (.body, norm lTrimPre) := rfl
theorem wk114 (s : ByteArray) (hp : True) : awp ty G114 (code Tryz.f114) (retP ty Tryz.f114.results.toList (.many [.v (.bool (sgnN s.data.toList)), .v (.string (bs (sgnR s.data.toList)))])) (entry 0 [.v (.string s)]) [] := by
  unfold code
  simp only [Tryz.f114, Option.getD_some]
  obtain ⟨l, rfl⟩ : ∃ l, s = bs l := ⟨_, Bt s⟩
  rw [Bd]
  all_goals repeat' (first
 | ((with_reducible first | (refine ZA ?_; intro X hX) | (show awp _ _ _ _ (Kp _ _) _) | refine ZD ?_ | refine ZE ?_ | refine ZF ?_ | ((show Bg _ _ _ _ _); simp only [hall]) | (refine ZR ?_ ?_ <;> intro hb <;> (try simp only [hb]) <;> have hq := hb <;> try simp only [HQ] at hq)) <;> try simp only [Go.AM.SS, Nat.reduceAdd, Nat.reduceMul, Nat.reduceSub, ↓reduceIte, Nat.reduceEqDiff, Nat.reduceLT, Nat.reduceLeDiff, reduceCtorEq, Int.reduceBEq, Int.reduceBNe, Nat.reduceBEq, Int.reduceEq, Int.reduceToNat, Int.reduceLE, Int.reduceLT, Nat.reduceDiv, Int.reduceAdd, Int.reduceSub, Int.reduceMul, Int.reduceNeg, Int.reduceGT, Int.reduceGE, Nat.reduceMod, k114_116, lCutPre_eq, k114_181, lTrimPre_eq, ty_9, bs_lit, bs_app, Bz, bs_beq, Bi, Bd, Be, bt_bs, List.length_append, List.append_nil, List.nil_append, List.cons_append])
 | with_reducible first
 | (refine hX _ _ ?_; clear hX X)
 | (refine ZG ?_; try clear hall all)
 | (refine hK _ _ ?_; clear hK K)
 | refine ZL ?_
 | (refine v_0 _ _ ?_; try clear v_0 V_0)
 | (refine v_1 _ _ ?_; try clear v_1 V_1)
 | ((first | refine qr 4 [2,3] ?_ | refine Zh (a := .seq (.region 1 _ _) _) [0] ?_ | refine qr 0 [0] ?_); intro V_0 v_0)
 | ((first | refine qr 3 [2,3] ?_ | refine qr 2 [0,4,11] ?_ | refine qr 1 [0,4,5] ?_); intro V_1 v_1)
 | (refine ZM ?_; intro K hK)
 | (refine ZN ?_; intro all hall K hK)
 | (refine ZQ ?_ ?_)
 | refine ZT ?_ | refine ZU ?_ | refine ZW ?_)
  all_goals try clear v_1 V_1
  all_goals try clear v_0 V_0
  all_goals (try simp only [inR])
  all_goals first
    | omega
    | (rw [(sgn_t hq).1, (sgn_t hq).2]; exact ⟨rfl, rfl⟩)
    | (rw [(sgn_f hq).1, (sgn_f hq).2]; exact ⟨rfl, rfl⟩)
    | skip
theorem sound_114 : Sound Tryz.prog 114 .body (norm s114) := by
  refine sb Tryz.func114 rfl (by kernel_rfl) G114_ok (by kernel_rfl) fun ds p r hs hp => ?_
  unfold s114 at hs
  split at hs
  · cases hs; exact ⟨Nat.le_of_ble_eq_true (by kernel_rfl), wk114 _ hp⟩
  · cases hs
noncomputable def s155 : Cs := fun ds => match ds with
  | [.v (.string s)] => some (s.size ≤ 100000, .many [.v (.string (bs (gDig s.data.toList))), .v (.string (bs (gOff s.data.toList)))])
  | _ => none
theorem s155_eq (s : ByteArray) : norm s155 [.v (.string s)] = s155 [.v (.string s)] := rfl
noncomputable def G155 : Gam := [(182, .body, norm lTrimL)]
theorem G155_ok : Gk Tryz.prog G155 := Gc snd_lTrimL Gn
theorem k155_182 : lk G155 182 = some (.body, norm lTrimL) := rfl
theorem wk155 (s : ByteArray) (hp : s.size ≤ 100000) : awp ty G155 (code Tryz.f155) (retP ty Tryz.f155.results.toList (.many [.v (.string (bs (gDig s.data.toList))), .v (.string (bs (gOff s.data.toList)))])) (entry 0 [.v (.string s)]) [] := by
  unfold code
  simp only [Tryz.f155, Option.getD_some]
  obtain ⟨l, rfl⟩ : ∃ l, s = bs l := ⟨_, Bt s⟩
  rw [Bz] at hp
  rw [Bd]
  have hl := gOff_len l
  have hr := gRun l
  have ht : Go.Lib.trimLeftS l [48, 49, 50, 51, 52, 53, 54, 55, 56, 57] = gOff l := trim10 l
  have e0 : ((l.length : Int) - ((gOff l).length : Int)).toNat = l.length - (gOff l).length := by omega
  all_goals repeat' (first
 | ((with_reducible first | (refine ZA ?_; intro X hX) | (show awp _ _ _ _ (Kp _ _) _) | refine ZD ?_ | refine ZE ?_ | refine ZF ?_ | ((show Bg _ _ _ _ _); simp only [hall]) | (refine ZR ?_ ?_ <;> intro hb <;> (try simp only [hb]) <;> have hq := hb <;> try simp only [HQ] at hq)) <;> try simp only [Go.AM.SS, Nat.reduceAdd, Nat.reduceMul, Nat.reduceSub, ↓reduceIte, Nat.reduceEqDiff, Nat.reduceLT, Nat.reduceLeDiff, reduceCtorEq, Int.reduceBEq, Int.reduceBNe, Nat.reduceBEq, Int.reduceEq, Int.reduceToNat, Int.reduceLE, Int.reduceLT, Nat.reduceDiv, Int.reduceAdd, Int.reduceSub, Int.reduceMul, Int.reduceNeg, Int.reduceGT, Int.reduceGE, Nat.reduceMod, k155_182, lTrimL_eq, ty_3, ty_9, bs_lit, bs_app, Bz, bs_beq, Bi, Bd, Be, bt_bs, List.length_append, List.append_nil, List.nil_append, List.cons_append, ht, e0, List.drop_zero, Nat.sub_zero, Int.toNat_zero, hr])
 | with_reducible first
 | (refine hX _ _ ?_; clear hX X)
 | (refine ZG ?_; try clear hall all)
 | (refine hK _ _ ?_; clear hK K)
 | refine ZL ?_
 | (refine v_0 _ _ ?_; try clear v_0 V_0)
 | ((first | refine qr 2 [2,3] ?_ | refine qr 1 [0,4] ?_ | refine qr 0 [0] ?_); intro V_0 v_0)
 | (refine ZM ?_; intro K hK)
 | (refine ZN ?_; intro all hall K hK)
 | (refine ZQ ?_ ?_)
 | refine ZT ?_ | refine ZU ?_ | refine ZW ?_)
  all_goals try clear v_0 V_0
  all_goals (try simp only [inR])
  all_goals first
    | omega
    | skip
theorem sound_155 : Sound Tryz.prog 155 .body (norm s155) := by
  refine sb Tryz.func155 rfl (by kernel_rfl) G155_ok (by kernel_rfl) fun ds p r hs hp => ?_
  unfold s155 at hs
  split at hs
  · cases hs; exact ⟨Nat.le_of_ble_eq_true (by kernel_rfl), wk155 _ hp⟩
  · cases hs
noncomputable def s156 : Cs := fun ds => match ds with
  | [.v (.string s)] => some (True, .one (.v (.string (bs (bare s.data.toList)))))
  | _ => none
theorem s156_eq (s : ByteArray) : norm s156 [.v (.string s)] = s156 [.v (.string s)] := rfl
noncomputable def G156 : Gam := [(182, .body, norm lTrimL)]
theorem G156_ok : Gk Tryz.prog G156 := Gc snd_lTrimL Gn
theorem k156_182 : lk G156 182 = some (.body, norm lTrimL) := rfl
theorem wk156 (s : ByteArray) (hp : True) : awp ty G156 (code Tryz.f156) (retP ty Tryz.f156.results.toList (.one (.v (.string (bs (bare s.data.toList)))))) (entry 0 [.v (.string s)]) [] := by
  unfold code
  simp only [Tryz.f156, Option.getD_some]
  obtain ⟨l, rfl⟩ : ∃ l, s = bs l := ⟨_, Bt s⟩
  rw [Bd]
  all_goals repeat' (first
 | ((with_reducible first | (refine ZA ?_; intro X hX) | (show awp _ _ _ _ (Kp _ _) _) | refine ZD ?_ | refine ZE ?_ | refine ZF ?_ | ((show Bg _ _ _ _ _); simp only [hall]) | (refine ZR ?_ ?_ <;> intro hb <;> (try simp only [hb]) <;> have hq := hb <;> try simp only [HQ] at hq)) <;> try simp only [Go.AM.SS, Nat.reduceAdd, Nat.reduceMul, Nat.reduceSub, ↓reduceIte, Nat.reduceEqDiff, Nat.reduceLT, Nat.reduceLeDiff, reduceCtorEq, Int.reduceBEq, Int.reduceBNe, Nat.reduceBEq, Int.reduceEq, Int.reduceToNat, Int.reduceLE, Int.reduceLT, Nat.reduceDiv, Int.reduceAdd, Int.reduceSub, Int.reduceMul, Int.reduceNeg, Int.reduceGT, Int.reduceGE, Nat.reduceMod, k156_182, lTrimL_eq, ty_9, bs_lit, bs_app, Bz, bs_beq, Bi, Bd, Be, bt_bs, List.length_append, List.append_nil, List.nil_append, List.cons_append])
 | with_reducible first
 | (refine hX _ _ ?_; clear hX X)
 | (refine ZG ?_; try clear hall all)
 | (refine hK _ _ ?_; clear hK K)
 | refine ZL ?_
 | (refine v_0 _ _ ?_; try clear v_0 V_0)
 | ((first | refine qr 1 [2] ?_ | refine qr 0 [0] ?_); intro V_0 v_0)
 | (refine ZM ?_; intro K hK)
 | (refine ZN ?_; intro all hall K hK)
 | (refine ZQ ?_ ?_)
 | refine ZT ?_ | refine ZU ?_ | refine ZW ?_)
  all_goals try clear v_0 V_0
  all_goals (try simp only [inR])
  all_goals first
    | omega
    | (rw [Go.Lib.trimLeftS_one]; rfl)
    | skip
theorem sound_156 : Sound Tryz.prog 156 .body (norm s156) := by
  refine sb Tryz.func156 rfl (by kernel_rfl) G156_ok (by kernel_rfl) fun ds p r hs hp => ?_
  unfold s156 at hs
  split at hs
  · cases hs; exact ⟨Nat.le_of_ble_eq_true (by kernel_rfl), wk156 _ hp⟩
  · cases hs
noncomputable def s117 : Cs := fun ds => match ds with
  | [.v (.string s)] => some (s.size ≤ 100000, .many [.v (.int .i64 (expV s.data.toList)), .v (.bool (expOk s.data.toList))])
  | _ => none
theorem s117_eq (s : ByteArray) : norm s117 [.v (.string s)] = s117 [.v (.string s)] := rfl
noncomputable def G117 : Gam := [(114, .body, norm s114), (155, .body, norm s155), (156, .body, norm s156), (184, .body, norm lAtoi)]
theorem G117_ok : Gk Tryz.prog G117 := Gc sound_114 (Gc sound_155 (Gc sound_156 (Gc snd_lAtoi Gn)))
theorem k117_114 : lk G117 114 = some (.body, norm s114) := rfl
theorem k117_155 : lk G117 155 = some (.body, norm s155) := rfl
theorem k117_156 : lk G117 156 = some (.body, norm s156) := rfl
theorem k117_184 : lk G117 184 = some (.body, norm lAtoi) := rfl
theorem wk117 (s : ByteArray) (hp : s.size ≤ 100000) : awp ty G117 (code Tryz.f117) (retP ty Tryz.f117.results.toList (.many [.v (.int .i64 (expV s.data.toList)), .v (.bool (expOk s.data.toList))])) (entry 0 [.v (.string s)]) [] := by
  unfold code
  simp only [Tryz.f117, Option.getD_some]
  obtain ⟨l, rfl⟩ : ∃ l, s = bs l := ⟨_, Bt s⟩
  rw [Bz] at hp
  rw [Bd]
  have hsl := sgnR_len l
  all_goals repeat' (first
 | ((with_reducible first | (refine ZA ?_; intro X hX) | (show awp _ _ _ _ (Kp _ _) _) | refine ZD ?_ | refine ZE ?_ | refine ZF ?_ | ((show Bg _ _ _ _ _); simp only [hall]) | (refine ZR ?_ ?_ <;> intro hb <;> (try simp only [hb]) <;> have hq := hb <;> try simp only [HQ] at hq)) <;> try simp only [Go.AM.SS, Nat.reduceAdd, Nat.reduceMul, Nat.reduceSub, ↓reduceIte, Nat.reduceEqDiff, Nat.reduceLT, Nat.reduceLeDiff, reduceCtorEq, Int.reduceBEq, Int.reduceBNe, Nat.reduceBEq, Int.reduceEq, Int.reduceToNat, Int.reduceLE, Int.reduceLT, Nat.reduceDiv, Int.reduceAdd, Int.reduceSub, Int.reduceMul, Int.reduceNeg, Int.reduceGT, Int.reduceGE, Nat.reduceMod, k117_114, s114.eq_1, s114_eq, k117_155, s155.eq_1, s155_eq, k117_156, s156.eq_1, s156_eq, k117_184, lAtoi_eq, ty_3, ty_9, bs_lit, bs_app, Bz, bs_beq, Bi, Bd, Be, bt_bs, List.length_append, List.append_nil, List.nil_append, List.cons_append])
 | with_reducible first
 | (refine hX _ _ ?_; clear hX X)
 | (refine ZG ?_; try clear hall all)
 | (refine hK _ _ ?_; clear hK K)
 | refine ZL ?_
 | (refine v_0 _ _ ?_; try clear v_0 V_0)
 | (refine v_1 _ _ ?_; try clear v_1 V_1)
 | ((first | refine qr 12 [2,3] ?_ | refine Zh (a := .seq (.region 10 _ _) _) [7] ?_ | refine qr 9 [4,7] ?_ | refine Zh (a := .seq (.region 6 _ _) _) [4,7] ?_ | refine qr 5 [4,5,7] ?_ | refine Zh (a := .seq (.region 3 _ _) _) [4,5] ?_ | refine qr 2 [4,5,6] ?_ | refine qr 1 [0,4] ?_ | refine qr 0 [0] ?_); intro V_0 v_0)
 | ((first | refine qr 10 [7,37] ?_ | refine qr 7 [4,5,7,28] ?_ | refine qr 6 [4,5,7] ?_ | refine qr 4 [2,3] ?_ | refine qr 3 [4,5,23] ?_); intro V_1 v_1)
 | (refine ZM ?_; intro K hK)
 | (refine ZN ?_; intro all hall K hK)
 | (refine ZQ ?_ ?_)
 | refine ZT ?_ | refine ZU ?_ | refine ZW ?_)
  all_goals try clear v_1 V_1
  all_goals try clear v_0 V_0
  all_goals (try simp only [inR])
  all_goals first
    | omega
    | exact ⟨_, bare_all (gDig_all _), by omega, rfl⟩
    | (rw [(exp_no (.inl hq)).1, (exp_no (.inl hq)).2]; exact ⟨rfl, rfl⟩)
    | (rw [(exp_no (.inr hq)).1, (exp_no (.inr hq)).2]; exact ⟨rfl, rfl⟩)
    | (obtain ⟨a, b, c⟩ := exp_lo (l := l) (by assumption) (by assumption); rw [a, b hq]; exact ⟨rfl, rfl⟩)
    | (obtain ⟨a, b, c⟩ := exp_lo (l := l) (by assumption) (by assumption); rw [a, c hq]; exact ⟨rfl, rfl⟩)
    | (obtain ⟨a, b, c⟩ := exp_hi (l := l) (by assumption) (by assumption) (by assumption); rw [a, b hq]; exact ⟨rfl, rfl⟩)
    | (obtain ⟨a, b, c⟩ := exp_hi (l := l) (by assumption) (by assumption) (by assumption); rw [a, c hq]; exact ⟨rfl, rfl⟩)
    | skip
theorem sound_117 : Sound Tryz.prog 117 .body (norm s117) := by
  refine sb Tryz.func117 rfl (by kernel_rfl) G117_ok (by kernel_rfl) fun ds p r hs hp => ?_
  unfold s117 at hs
  split at hs
  · cases hs; exact ⟨Nat.le_of_ble_eq_true (by kernel_rfl), wk117 _ hp⟩
  · cases hs
noncomputable def s207 : Cs := fun ds => match ds with
  | [.v (.string s)] => some (s.size ≤ 100000, .one (.v (.string (bs (Go.Lib.mapD lowF s.data.toList)))))
  | _ => none
theorem s207_eq (s : ByteArray) : norm s207 [.v (.string s)] = s207 [.v (.string s)] := rfl
noncomputable def G207 : Gam := [(239, .body, norm lMap)]
theorem G207_ok : Gk Tryz.prog G207 := Gc snd_lMap Gn
theorem k207_239 : lk G207 239 = some (.body, norm lMap) := rfl
theorem wk207 (s : ByteArray) (hp : s.size ≤ 100000) : awp ty G207 (code Tryz.f207) (retP ty Tryz.f207.results.toList (.one (.v (.string (bs (Go.Lib.mapD lowF s.data.toList)))))) (entry 0 [.v (.string s)]) [] := by
  unfold code
  simp only [Tryz.f207, Option.getD_some]
  obtain ⟨l, rfl⟩ : ∃ l, s = bs l := ⟨_, Bt s⟩
  rw [Bz] at hp
  rw [Bd]
  all_goals repeat' (first
 | ((with_reducible first | (refine ZA ?_; intro X hX) | (show awp _ _ _ _ (Kp _ _) _) | refine ZD ?_ | refine ZE ?_ | refine ZF ?_ | ((show Bg _ _ _ _ _); simp only [hall]) | (refine ZR ?_ ?_ <;> intro hb <;> (try simp only [hb]) <;> have hq := hb <;> try simp only [HQ] at hq)) <;> try simp only [Go.AM.SS, Nat.reduceAdd, Nat.reduceMul, Nat.reduceSub, ↓reduceIte, Nat.reduceEqDiff, Nat.reduceLT, Nat.reduceLeDiff, reduceCtorEq, Int.reduceBEq, Int.reduceBNe, Nat.reduceBEq, Int.reduceEq, Int.reduceToNat, Int.reduceLE, Int.reduceLT, Nat.reduceDiv, Int.reduceAdd, Int.reduceSub, Int.reduceMul, Int.reduceNeg, Int.reduceGT, Int.reduceGE, Nat.reduceMod, k207_239, lMap_eq, ty_9, bs_lit, bs_app, Bz, bs_beq, Bi, Bd, Be, bt_bs, List.length_append, List.append_nil, List.nil_append, List.cons_append])
 | with_reducible first
 | (refine hX _ _ ?_; clear hX X)
 | (refine ZG ?_; try clear hall all)
 | (refine hK _ _ ?_; clear hK K)
 | refine ZL ?_
 | (refine v_0 _ _ ?_; try clear v_0 V_0)
 | ((first | refine qr 1 [2] ?_ | refine qr 0 [0] ?_); intro V_0 v_0)
 | (refine ZM ?_; intro K hK)
 | (refine ZN ?_; intro all hall K hK)
 | (refine ZQ ?_ ?_)
 | refine ZT ?_ | refine ZU ?_ | refine ZW ?_)
  all_goals try clear v_0 V_0
  all_goals (try simp only [inR])
  all_goals first
    | omega
    | skip
theorem sound_207 : Sound Tryz.prog 207 .body (norm s207) := by
  refine sb Tryz.func207 rfl (by kernel_rfl) G207_ok (by kernel_rfl) fun ds p r hs hp => ?_
  unfold s207 at hs
  split at hs
  · cases hs; exact ⟨Nat.le_of_ble_eq_true (by kernel_rfl), wk207 _ hp⟩
  · cases hs
noncomputable def s154 : Cs := fun ds => match ds with
  | [.v (.string s)] => some (s.size ≤ 4000, .many [.v (.agg #[.int .i64 (wC s.data.toList), .bool false, .bool (wQ s.data.toList), .string (bs (wD s.data.toList)), .int .i64 0]), .v (.bool (wOk s.data.toList))])
  | _ => none
theorem s154_eq (s : ByteArray) : norm s154 [.v (.string s)] = s154 [.v (.string s)] := rfl
noncomputable def G154 : Gam := [(116, .body, norm lCutPre), (155, .body, norm s155), (156, .body, norm s156), (207, .body, norm s207), (208, .body, norm lCutSuf)]
theorem G154_ok : Gk Tryz.prog G154 := Gc snd_lCutPre (Gc sound_155 (Gc sound_156 (Gc sound_207 (Gc snd_lCutSuf Gn))))
theorem k154_116 : lk G154 116 = some (.body, norm lCutPre) := rfl
theorem k154_155 : lk G154 155 = some (.body, norm s155) := rfl
theorem k154_156 : lk G154 156 = some (.body, norm s156) := rfl
theorem k154_207 : lk G154 207 = some (.body, norm s207) := rfl
theorem k154_208 : lk G154 208 = some (.body, norm lCutSuf) := rfl
theorem wk154 (s : ByteArray) (hp : s.size ≤ 4000) : awp ty G154 (code Tryz.f154) (retP ty Tryz.f154.results.toList (.many [.v (.agg #[.int .i64 (wC s.data.toList), .bool false, .bool (wQ s.data.toList), .string (bs (wD s.data.toList)), .int .i64 0]), .v (.bool (wOk s.data.toList))])) (entry 0 [.v (.string s)]) [] := by
  unfold code
  simp only [Tryz.f154, Option.getD_some]
  obtain ⟨l, rfl⟩ : ∃ l, s = bs l := ⟨_, Bt s⟩
  rw [Bz] at hp
  rw [Bd]
  have hml := mapD_len lowF _ l (Nat.le_refl _)
  obtain ⟨m, hm⟩ : ∃ m, Go.Lib.mapD lowF l = m := ⟨_, rfl⟩
  rw [hm] at hml
  all_goals repeat' (first
 | ((with_reducible first | (refine ZA ?_; intro X hX) | (show awp _ _ _ _ (Kp _ _) _) | refine ZD ?_ | refine ZE ?_ | refine ZF ?_ | ((show Bg _ _ _ _ _); simp only [hall]) | (refine ZR ?_ ?_ <;> intro hb <;> (try simp only [hb]) <;> have hq := hb <;> try simp only [HQ] at hq)) <;> try simp only [Go.AM.SS, Nat.reduceAdd, Nat.reduceMul, Nat.reduceSub, ↓reduceIte, Nat.reduceEqDiff, Nat.reduceLT, Nat.reduceLeDiff, reduceCtorEq, Int.reduceBEq, Int.reduceBNe, Nat.reduceBEq, Int.reduceEq, Int.reduceToNat, Int.reduceLE, Int.reduceLT, Nat.reduceDiv, Int.reduceAdd, Int.reduceSub, Int.reduceMul, Int.reduceNeg, Int.reduceGT, Int.reduceGE, Nat.reduceMod, k154_116, lCutPre_eq, k154_155, s155.eq_1, s155_eq, k154_156, s156.eq_1, s156_eq, k154_207, s207.eq_1, s207_eq, k154_208, lCutSuf_eq, ty_3, ty_4, ty_9, ty_44, bs_lit, bs_app, Bz, bs_beq, Bi, Bd, Be, bt_bs, List.length_append, List.append_nil, List.nil_append, List.cons_append, hm])
 | with_reducible first
 | (refine hX _ _ ?_; clear hX X)
 | (refine ZG ?_; try clear hall all)
 | (refine hK _ _ ?_; clear hK K)
 | refine ZL ?_
 | (refine v_0 _ _ ?_; try clear v_0 V_0)
 | (refine v_1 _ _ ?_; try clear v_1 V_1)
 | (refine v_2 _ _ ?_; try clear v_2 V_2)
 | ((first | refine qr 21 [2,3] ?_ | refine Zh (a := .seq (.region 14 _ _) _) [2] ?_ | refine Zh (a := .seq (.region 9 _ _) _) [2,4] ?_ | refine qr 8 [0,2,3,4] ?_ | refine qr 7 [0,2] ?_ | refine Zh (a := .seq (.region 4 _ _) _) [0,2] ?_ | refine qr 3 [0,2] ?_ | refine Zh (a := .seq (.region 1 _ _) _) [0,2] ?_ | refine qr 0 [0,2] ?_); intro V_0 v_0)
 | ((first | refine Zh (a := .seq (.region 18 _ _) _) [2,8] ?_ | refine qr 17 [2,6,7,8,9] ?_ | refine qr 16 [2,5,6,7] ?_ | refine qr 15 [2,5,6] ?_ | refine qr 14 [2,4,42] ?_ | refine qr 13 [2,3] ?_ | refine qr 12 [2,4,39] ?_ | refine qr 11 [2,3,4] ?_ | refine qr 10 [0,2] ?_ | refine qr 9 [0,2,4,31] ?_ | refine qr 6 [2,3] ?_ | refine qr 5 [2] ?_ | refine qr 4 [0,2,21] ?_ | refine qr 2 [2,3] ?_ | refine qr 1 [0,2,12] ?_); intro V_1 v_1)
 | ((first | refine qr 19 [2,3] ?_ | refine qr 18 [2,8,71] ?_); intro V_2 v_2)
 | (refine ZM ?_; intro K hK)
 | (refine ZN ?_; intro all hall K hK)
 | (refine ZQ ?_ ?_)
 | refine ZT ?_ | refine ZU ?_ | refine ZW ?_)
  all_goals try clear v_2 V_2
  all_goals try clear v_1 V_1
  all_goals try clear v_0 V_0
  all_goals (try simp only [inR])
  all_goals first
    | omega
    | exact Nat.le_trans (trimPre_len _ _) (Nat.le_trans (trimPre_len _ _) (by omega))
    | exact Nat.le_trans (trimSuf_len _ _) (Nat.le_trans (trimPre_len _ _) (Nat.le_trans (trimPre_len _ _) (by omega)))
    | (have k := w_is hm (gw_i (by assumption)); rw [k.1, k.2.1, k.2.2.1, k.2.2.2]; exact ⟨rfl, rfl⟩)
    | (have k := w_is hm (gw_j (by assumption)); rw [k.1, k.2.1, k.2.2.1, k.2.2.2]; exact ⟨rfl, rfl⟩)
    | (have k := w_no hm (gw_o (by assumption) (by assumption) (by assumption) (by assumption)); rw [k.1, k.2.1, k.2.2.1, k.2.2.2]; exact ⟨rfl, rfl⟩)
    | (have k := w_is hm ((gw_n (by assumption) (by assumption) (by assumption)).trans (gt_0 (by assumption))); rw [k.1, k.2.1, k.2.2.1, k.2.2.2]; exact ⟨rfl, rfl⟩)
    | (have k := w_no hm ((gw_n (by assumption) (by assumption) (by assumption)).trans (gt_a (by assumption) (by assumption))); rw [k.1, k.2.1, k.2.2.1, k.2.2.2]; exact ⟨rfl, rfl⟩)
    | (have k := w_no hm ((gw_n (by assumption) (by assumption) (by assumption)).trans (gt_b (by assumption) (by assumption) (by assumption))); rw [k.1, k.2.1, k.2.2.1, k.2.2.2]; exact ⟨rfl, rfl⟩)
    | (have k := w_no hm ((gw_n (by assumption) (by assumption) (by assumption)).trans (gt_c (by assumption) (by assumption) (by assumption) (.inl (by assumption)))); rw [k.1, k.2.1, k.2.2.1, k.2.2.2]; exact ⟨rfl, rfl⟩)
    | (have k := w_no hm ((gw_n (by assumption) (by assumption) (by assumption)).trans (gt_c (by assumption) (by assumption) (by assumption) (.inr (by assumption)))); rw [k.1, k.2.1, k.2.2.1, k.2.2.2]; exact ⟨rfl, rfl⟩)
    | (have k := w_is hm ((gw_n (by assumption) (by assumption) (by assumption)).trans (gt_d (by assumption) (by assumption) (by assumption) (by assumption) (by assumption))); rw [k.1, k.2.1, k.2.2.1, k.2.2.2]; exact ⟨rfl, rfl⟩)
    | (have k := w_is hm ((gw_s (by assumption) (by assumption) (by assumption) (by assumption)).trans (gt_0 (by assumption))); rw [k.1, k.2.1, k.2.2.1, k.2.2.2]; exact ⟨rfl, rfl⟩)
    | (have k := w_no hm ((gw_s (by assumption) (by assumption) (by assumption) (by assumption)).trans (gt_a (by assumption) (by assumption))); rw [k.1, k.2.1, k.2.2.1, k.2.2.2]; exact ⟨rfl, rfl⟩)
    | (have k := w_no hm ((gw_s (by assumption) (by assumption) (by assumption) (by assumption)).trans (gt_b (by assumption) (by assumption) (by assumption))); rw [k.1, k.2.1, k.2.2.1, k.2.2.2]; exact ⟨rfl, rfl⟩)
    | (have k := w_no hm ((gw_s (by assumption) (by assumption) (by assumption) (by assumption)).trans (gt_c (by assumption) (by assumption) (by assumption) (.inl (by assumption)))); rw [k.1, k.2.1, k.2.2.1, k.2.2.2]; exact ⟨rfl, rfl⟩)
    | (have k := w_no hm ((gw_s (by assumption) (by assumption) (by assumption) (by assumption)).trans (gt_c (by assumption) (by assumption) (by assumption) (.inr (by assumption)))); rw [k.1, k.2.1, k.2.2.1, k.2.2.2]; exact ⟨rfl, rfl⟩)
    | (have k := w_is hm ((gw_s (by assumption) (by assumption) (by assumption) (by assumption)).trans (gt_d (by assumption) (by assumption) (by assumption) (by assumption) (by assumption))); rw [k.1, k.2.1, k.2.2.1, k.2.2.2]; exact ⟨rfl, rfl⟩)
    | skip
theorem sound_154 : Sound Tryz.prog 154 .body (norm s154) := by
  refine sb Tryz.func154 rfl (by kernel_rfl) G154_ok (by kernel_rfl) fun ds p r hs hp => ?_
  unfold s154 at hs
  split at hs
  · cases hs; exact ⟨Nat.le_of_ble_eq_true (by kernel_rfl), wk154 _ hp⟩
  · cases hs
noncomputable def s93 : Cs := fun ds => match ds with
  | [.v (.string s)] => some (s.size ≤ 100000, .many [.v (.agg #[.int .i64 (gCut s.data.toList).c, .bool (gCut s.data.toList).s, .bool (gCut s.data.toList).q, .string (bs (gCut s.data.toList).d), .int .i64 (gCut s.data.toList).x]), .v (.int .i64 (gCut s.data.toList).e)])
  | _ => none
theorem s93_eq (s : ByteArray) : norm s93 [.v (.string s)] = s93 [.v (.string s)] := rfl
noncomputable def G93 : Gam := [(114, .body, norm s114), (116, .body, norm lCutPre), (117, .body, norm s117), (154, .body, norm s154), (155, .body, norm s155), (156, .body, norm s156)]
theorem G93_ok : Gk Tryz.prog G93 := Gc sound_114 (Gc snd_lCutPre (Gc sound_117 (Gc sound_154 (Gc sound_155 (Gc sound_156 Gn)))))
theorem k93_114 : lk G93 114 = some (.body, norm s114) := rfl
theorem k93_116 : lk G93 116 = some (.body, norm lCutPre) := rfl
theorem k93_117 : lk G93 117 = some (.body, norm s117) := rfl
theorem k93_154 : lk G93 154 = some (.body, norm s154) := rfl
theorem k93_155 : lk G93 155 = some (.body, norm s155) := rfl
theorem k93_156 : lk G93 156 = some (.body, norm s156) := rfl
theorem wk93 (s : ByteArray) (hp : s.size ≤ 100000) : awp ty G93 (code Tryz.f93) (retP ty Tryz.f93.results.toList (.many [.v (.agg #[.int .i64 (gCut s.data.toList).c, .bool (gCut s.data.toList).s, .bool (gCut s.data.toList).q, .string (bs (gCut s.data.toList).d), .int .i64 (gCut s.data.toList).x]), .v (.int .i64 (gCut s.data.toList).e)])) (entry 0 [.v (.string s)]) [] := by
  unfold code
  simp only [Tryz.f93, Option.getD_some]
  obtain ⟨l, rfl⟩ : ∃ l, s = bs l := ⟨_, Bt s⟩
  rw [Bz] at hp
  rw [Bd]
  have hml := sgnR_len l
  obtain ⟨m, hm⟩ : ∃ m, sgnR l = m := ⟨_, rfl⟩
  rw [hm] at hml
  have hlw := gOff_len m
  obtain ⟨W, hW⟩ : ∃ x, gDig m = x := ⟨_, rfl⟩
  obtain ⟨O, hO⟩ : ∃ x, gOff m = x := ⟨_, rfl⟩
  rw [hW, hO] at hlw
  obtain ⟨P, hP'⟩ : ∃ x, gPart O = x := ⟨_, rfl⟩
  obtain ⟨R, hR'⟩ : ∃ x, gRest O = x := ⟨_, rfl⟩
  have hlp : P.length + R.length ≤ O.length := by
    rw [← hP', ← hR']
    unfold gPart gRest
    split
    · have := gOff_len (O.drop 1); rw [List.length_drop] at this; omega
    · simp
  have hT : List.take (R.length - 1) (List.drop 1 R) = R.drop 1 := List.take_of_length_le (by rw [List.length_drop]; omega)
  have hd1 : (R.drop 1).length ≤ R.length := by rw [List.length_drop]; omega
  have hxb := expV_b (R.drop 1)
  rcases Bool.eq_false_or_eq_true (Go.Lib.hasPrefix O [46]) with hpre | hpre
  case' inl =>
    have hP : gDig (Go.Lib.trimPrefix O [46]) = P := by rw [← hP']; unfold gPart Go.Lib.trimPrefix; rw [if_pos hpre, if_pos hpre]; rfl
    have hR : gOff (Go.Lib.trimPrefix O [46]) = R := by rw [← hR']; unfold gRest Go.Lib.trimPrefix; rw [if_pos hpre, if_pos hpre]; rfl
    have htl := trimPre_len O [46]
  case' inr =>
    have hP0 : P = [] := by rw [← hP']; unfold gPart; rw [hpre]; rfl
    have hR0 : R = O := by rw [← hR']; unfold gRest; rw [hpre]; rfl
    subst hP0
    subst hR0
    have hP : decide ((4 : Int) ≥ 5) = false := rfl
    have hR : decide ((4 : Int) ≥ 5) = false := rfl
  all_goals have hP2 := (congrArg gPart hO).trans hP'
  all_goals have hR2 := (congrArg gRest hO).trans hR'
  all_goals repeat' (first
 | ((with_reducible first | (refine ZA ?_; intro X hX) | (show awp _ _ _ _ (Kp _ _) _) | refine ZD ?_ | refine ZE ?_ | refine ZF ?_ | ((show Bg _ _ _ _ _); simp only [hall]) | (refine ZR ?_ ?_ <;> intro hb <;> (try simp only [hb]) <;> have hq := hb <;> try simp only [HQ] at hq)) <;> try simp only [Go.AM.SS, Nat.reduceAdd, Nat.reduceMul, Nat.reduceSub, ↓reduceIte, Nat.reduceEqDiff, Nat.reduceLT, Nat.reduceLeDiff, reduceCtorEq, Int.reduceBEq, Int.reduceBNe, Nat.reduceBEq, Int.reduceEq, Int.reduceToNat, Int.reduceLE, Int.reduceLT, Nat.reduceDiv, Int.reduceAdd, Int.reduceSub, Int.reduceMul, Int.reduceNeg, Int.reduceGT, Int.reduceGE, Nat.reduceMod, k93_114, s114.eq_1, s114_eq, k93_116, lCutPre_eq, k93_117, s117.eq_1, s117_eq, k93_154, s154.eq_1, s154_eq, k93_155, s155.eq_1, s155_eq, k93_156, s156.eq_1, s156_eq, ty_3, ty_4, ty_5, ty_9, ty_44, bs_lit, bs_app, Bz, bs_beq, Bi, Bd, Be, bt_bs, List.length_append, List.append_nil, List.nil_append, List.cons_append, hm, hW, hO, hP, hR, hpre, hT, List.length_nil])
 | with_reducible first
 | (refine hX _ _ ?_; clear hX X)
 | (refine ZG ?_; try clear hall all)
 | (refine hK _ _ ?_; clear hK K)
 | refine ZL ?_
 | (refine v_0 _ _ ?_; try clear v_0 V_0)
 | (refine v_1 _ _ ?_; try clear v_1 V_1)
 | (refine v_2 _ _ ?_; try clear v_2 V_2)
 | ((first | refine qr 24 [2,3] ?_ | refine qr 23 [2,8] ?_ | refine qr 22 [2,8,10] ?_ | refine Zh (a := .seq (.region 16 _ _) _) [2,8,9,10] ?_ | refine Zh (a := .seq (.region 14 _ _) _) [2,5,8,9,10] ?_ | refine Zh (a := .seq (.region 11 _ _) _) [2,5,8,9,10] ?_ | refine qr 10 [2,5,8,9,10] ?_ | refine qr 9 [2,5,8,9] ?_ | refine qr 8 [2,5,8] ?_ | refine Zh (a := .seq (.region 4 _ _) _) [2,4,5] ?_ | refine qr 3 [2,4,5] ?_ | refine Zh (a := .seq (.region 1 _ _) _) [0,2] ?_ | refine qr 0 [0,2] ?_); intro V_0 v_0)
 | ((first | refine qr 21 [2,3] ?_ | refine qr 20 [2,8,9,10,74] ?_ | refine Zh (a := .seq (.region 18 _ _) _) [2,8,9,10,13] ?_ | refine qr 17 [2,5,8,9,10,13] ?_ | refine qr 16 [2,5,8,9,10,56] ?_ | refine qr 15 [2,3] ?_ | refine qr 14 [2,5,8,9,10,53] ?_ | refine qr 12 [2,5,8,9,10,11,44] ?_ | refine qr 11 [2,5,8,9,10,11,12] ?_ | refine qr 7 [2,3] ?_ | refine qr 6 [2,6] ?_ | refine qr 5 [2,4,5,6,28] ?_ | refine qr 4 [2,4,5,6,7] ?_ | refine qr 2 [2,3] ?_ | refine qr 1 [0,2,16] ?_); intro V_1 v_1)
 | ((first | refine qr 18 [2,5,8,9,10,13,65] ?_); intro V_2 v_2)
 | (refine ZM ?_; intro K hK)
 | (refine ZN ?_; intro all hall K hK)
 | (refine ZQ ?_ ?_)
 | refine ZT ?_ | refine ZU ?_ | refine ZW ?_)
  all_goals try clear v_2 V_2
  all_goals try clear v_1 V_1
  all_goals try clear v_0 V_0
  all_goals (try simp only [inR])
  all_goals first
    | omega
    | (have k := gCut_long (l := l) (by omega); rw [k]; exact ⟨rfl, rfl⟩)
    | (rw [gCut_word (by omega) (by rw [hm]; assumption), hm]; exact ⟨rfl, rfl⟩)
    | (have k := (gCut_num (l := l) (by omega) (by rw [hm]; assumption)); rw [hm, gn1 hW hP2 hR2 (by first | assumption | (rw [List.append_nil]; assumption))] at k; (try simp only [List.append_nil] at k); rw [k]; exact ⟨rfl, rfl⟩)
    | (have k := (gCut_num (l := l) (by omega) (by rw [hm]; assumption)); rw [hm, gn2 hW hP2 hR2 (by first | omega | exact Nat.zero_le _) (by first | assumption | (rw [List.append_nil]; assumption)) (by assumption)] at k; (try simp only [List.append_nil] at k); rw [k]; exact ⟨rfl, rfl⟩)
    | (have k := (gCut_num (l := l) (by omega) (by rw [hm]; assumption)); rw [hm, gn3 hW hP2 hR2 (by first | assumption | (rw [List.append_nil]; assumption)) (by assumption) (by assumption) (by assumption)] at k; (try simp only [List.append_nil] at k); rw [k]; exact ⟨rfl, rfl⟩)
    | (have k := (gCut_num (l := l) (by omega) (by rw [hm]; assumption)); rw [hm, gn4 hW hP2 hR2 (by first | assumption | (rw [List.append_nil]; assumption)) (by assumption) (.inl (by assumption)) (by assumption)] at k; (try simp only [List.append_nil] at k); rw [k]; exact ⟨rfl, rfl⟩)
    | (have k := (gCut_num (l := l) (by omega) (by rw [hm]; assumption)); rw [hm, gn4 hW hP2 hR2 (by first | assumption | (rw [List.append_nil]; assumption)) (by assumption) (.inr (by assumption)) (by assumption)] at k; (try simp only [List.append_nil] at k); rw [k]; exact ⟨rfl, rfl⟩)
    | (have k := (gCut_num (l := l) (by omega) (by rw [hm]; assumption)); rw [hm, gn5 hW hP2 hR2 (by first | assumption | (rw [List.append_nil]; assumption)) (by assumption) (.inl (by assumption)) (by assumption)] at k; (try simp only [List.append_nil] at k); rw [k]; exact ⟨rfl, rfl⟩)
    | (have k := (gCut_num (l := l) (by omega) (by rw [hm]; assumption)); rw [hm, gn5 hW hP2 hR2 (by first | assumption | (rw [List.append_nil]; assumption)) (by assumption) (.inr (by assumption)) (by assumption)] at k; (try simp only [List.append_nil] at k); rw [k]; exact ⟨rfl, rfl⟩)
    | (have := pos_of_ne (R := R) (by assumption); omega)
    | skip
theorem sound_93 : Sound Tryz.prog 93 .body (norm s93) := by
  refine sb Tryz.func93 rfl (by kernel_rfl) G93_ok (by kernel_rfl) fun ds p r hs hp => ?_
  unfold s93 at hs
  split at hs
  · cases hs; exact ⟨Nat.le_of_ble_eq_true (by kernel_rfl), wk93 _ hp⟩
  · cases hs
noncomputable def s160 : Cs := fun ds => match ds with
  | [.v (.agg ⟨[.int .i64 cl, .bool sg, .bool si, .string D, .int .i64 ex]⟩)] => some (D.size ≤ 10000 ∧ -9223372036854775808 ≤ ex ∧ ex ≤ 9223372036854775807, .one (.v (.string (bs (gText cl sg si D.data.toList ex)))))
  | _ => none
theorem s160_eq (cl : Int) (sg : Bool) (si : Bool) (D : ByteArray) (ex : Int) : norm s160 [.v (.agg #[.int .i64 cl, .bool sg, .bool si, .string D, .int .i64 ex])] = s160 [.v (.agg #[.int .i64 cl, .bool sg, .bool si, .string D, .int .i64 ex])] := rfl
noncomputable def G160 : Gam := [(66, .body, norm lItoa)]
theorem G160_ok : Gk Tryz.prog G160 := Gc snd_lItoa Gn
theorem k160_66 : lk G160 66 = some (.body, norm lItoa) := rfl
theorem wk160 (cl : Int) (sg : Bool) (si : Bool) (D : ByteArray) (ex : Int) (hp : D.size ≤ 10000 ∧ -9223372036854775808 ≤ ex ∧ ex ≤ 9223372036854775807) : awp ty G160 (code Tryz.f160) (retP ty Tryz.f160.results.toList (.one (.v (.string (bs (gText cl sg si D.data.toList ex)))))) (entry 0 [.v (.agg #[.int .i64 cl, .bool sg, .bool si, .string D, .int .i64 ex])]) [] := by
  unfold code
  simp only [Tryz.f160, Option.getD_some]
  obtain ⟨d, rfl⟩ : ∃ d, D = bs d := ⟨_, Bt D⟩
  rw [Bz] at hp
  rw [Bd]
  have hil := Go.Lib.itoa_length_le ex hp.2.1 hp.2.2
  all_goals repeat' (first
 | ((with_reducible first | (refine ZA ?_; intro X hX) | (show awp _ _ _ _ (Kp _ _) _) | refine ZD ?_ | refine ZE ?_ | refine ZF ?_ | ((show Bg _ _ _ _ _); simp only [hall]) | (refine ZR ?_ ?_ <;> intro hb <;> (try simp only [hb]) <;> have hq := hb <;> try simp only [HQ] at hq)) <;> try simp only [Go.AM.SS, Nat.reduceAdd, Nat.reduceMul, Nat.reduceSub, ↓reduceIte, Nat.reduceEqDiff, Nat.reduceLT, Nat.reduceLeDiff, reduceCtorEq, Int.reduceBEq, Int.reduceBNe, Nat.reduceBEq, Int.reduceEq, Int.reduceToNat, Int.reduceLE, Int.reduceLT, Nat.reduceDiv, Int.reduceAdd, Int.reduceSub, Int.reduceMul, Int.reduceNeg, Int.reduceGT, Int.reduceGE, Nat.reduceMod, k160_66, lItoa_eq, ty_3, ty_4, ty_9, ty_44, bs_lit, bs_app, Bz, bs_beq, Bi, Bd, Be, bt_bs, List.length_append, List.append_nil, List.nil_append, List.cons_append])
 | with_reducible first
 | (refine hX _ _ ?_; clear hX X)
 | (refine ZG ?_; try clear hall all)
 | (refine hK _ _ ?_; clear hK K)
 | refine ZL ?_
 | (refine v_0 _ _ ?_; try clear v_0 V_0)
 | (refine v_1 _ _ ?_; try clear v_1 V_1)
 | (refine v_2 _ _ ?_; try clear v_2 V_2)
 | ((first | refine qr 19 [2] ?_ | refine Zh (a := .seq (.region 17 _ _) _) [3] ?_ | refine qr 16 [1,3] ?_ | refine Zh (a := .seq (.region 14 _ _) _) [1,3] ?_ | refine Zh (a := .seq (.region 4 _ _) _) [1,3] ?_ | refine Zh (a := .seq (.region 2 _ _) _) [1,3] ?_ | refine qr 1 [1,3] ?_ | refine qr 0 [1] ?_); intro V_0 v_0)
 | ((first | refine qr 17 [1,3,40] ?_ | refine qr 14 [1,3,32] ?_ | refine qr 6 [2] ?_ | refine qr 13 [2] ?_ | refine Zh (a := .seq (.region 11 _ _) _) [3] ?_ | refine qr 10 [1,3] ?_ | refine Zh (a := .seq (.region 8 _ _) _) [1,3] ?_ | refine qr 7 [1,3,12] ?_ | refine qr 5 [1,3,7,8] ?_ | refine qr 4 [1,3,7] ?_ | refine qr 2 [1,3,5] ?_); intro V_1 v_1)
 | ((first | refine qr 11 [1,3,22] ?_ | refine qr 8 [1,3,15] ?_); intro V_2 v_2)
 | (refine ZM ?_; intro K hK)
 | (refine ZN ?_; intro all hall K hK)
 | (refine ZQ ?_ ?_)
 | (refine Zg ?_; simp only [↓reduceIte, Nat.reduceEqDiff])
 | refine ZS ?_ | refine ZT ?_ | refine ZU ?_ | refine ZV ?_ | refine ZW ?_ | refine ZX ?_ | refine Ze ?_ | refine Zf ?_)
  all_goals try clear v_2 V_2
  all_goals try clear v_1 V_1
  all_goals try clear v_0 V_0
  all_goals (try simp only [inR])
  all_goals first
    | omega
    | (have e1 : ¬ (cl = 2 ∨ cl = 3) := by omega
       unfold gText; rw [if_neg e1]; simp_all; done)
    | (have e1 : cl = 2 ∨ cl = 3 := by omega
       unfold gText nanT; rw [if_pos e1]; simp_all; done)
    | skip
theorem sound_160 : Sound Tryz.prog 160 .body (norm s160) := by
  refine sb Tryz.func160 rfl (by kernel_rfl) G160_ok (by kernel_rfl) fun ds p r hs hp => ?_
  unfold s160 at hs
  split at hs
  · cases hs; exact ⟨Nat.le_of_ble_eq_true (by kernel_rfl), wk160 _ _ _ _ _ hp⟩
  · cases hs
noncomputable def s95 : Cs := fun ds => match ds with
  | [.v (.agg ⟨[.int .i64 cl, .bool sg, .bool si, .string D, .int .i64 ex]⟩)] => some (D.size ≤ 10000 ∧ -9223372036854775808 ≤ ex ∧ ex ≤ 9223372036854775807, .many [.v (.string (bs (if gGood cl sg si D.data.toList ex then (gText cl sg si D.data.toList ex) else []))), .v (.int .i64 (if gGood cl sg si D.data.toList ex then 0 else 1))])
  | _ => none
theorem s95_eq (cl : Int) (sg : Bool) (si : Bool) (D : ByteArray) (ex : Int) : norm s95 [.v (.agg #[.int .i64 cl, .bool sg, .bool si, .string D, .int .i64 ex])] = s95 [.v (.agg #[.int .i64 cl, .bool sg, .bool si, .string D, .int .i64 ex])] := rfl
noncomputable def G95 : Gam := [(93, .body, norm s93), (160, .body, norm s160)]
theorem G95_ok : Gk Tryz.prog G95 := Gc sound_93 (Gc sound_160 Gn)
theorem k95_93 : lk G95 93 = some (.body, norm s93) := rfl
theorem k95_160 : lk G95 160 = some (.body, norm s160) := rfl
theorem wk95 (cl : Int) (sg : Bool) (si : Bool) (D : ByteArray) (ex : Int) (hp : D.size ≤ 10000 ∧ -9223372036854775808 ≤ ex ∧ ex ≤ 9223372036854775807) : awp ty G95 (code Tryz.f95) (retP ty Tryz.f95.results.toList (.many [.v (.string (bs (if gGood cl sg si D.data.toList ex then (gText cl sg si D.data.toList ex) else []))), .v (.int .i64 (if gGood cl sg si D.data.toList ex then 0 else 1))])) (entry 0 [.v (.agg #[.int .i64 cl, .bool sg, .bool si, .string D, .int .i64 ex])]) [] := by
  unfold code
  simp only [Tryz.f95, Option.getD_some]
  obtain ⟨d, rfl⟩ : ∃ d, D = bs d := ⟨_, Bt D⟩
  rw [Bz] at hp
  rw [Bd]
  all_goals repeat' (first
 | ((with_reducible first | (refine ZA ?_; intro X hX) | (show awp _ _ _ _ (Kp _ _) _) | refine ZD ?_ | refine ZE ?_ | refine ZF ?_ | ((show Bg _ _ _ _ _); simp only [hall]) | (refine ZR ?_ ?_ <;> intro hb <;> (try simp only [hb]) <;> have hq := hb <;> try simp only [HQ] at hq)) <;> try simp only [Go.AM.SS, Nat.reduceAdd, Nat.reduceMul, Nat.reduceSub, ↓reduceIte, Nat.reduceEqDiff, Nat.reduceLT, Nat.reduceLeDiff, reduceCtorEq, Int.reduceBEq, Int.reduceBNe, Nat.reduceBEq, Int.reduceEq, Int.reduceToNat, Int.reduceLE, Int.reduceLT, Nat.reduceDiv, Int.reduceAdd, Int.reduceSub, Int.reduceMul, Int.reduceNeg, Int.reduceGT, Int.reduceGE, Nat.reduceMod, k95_93, s93.eq_1, s93_eq, k95_160, s160.eq_1, s160_eq, ty_3, ty_4, ty_9, ty_26, ty_44, bs_lit, bs_app, Bz, bs_beq, Bi, Bd, Be, bt_bs, List.length_append, List.append_nil, List.nil_append, List.cons_append])
 | with_reducible first
 | (refine hX _ _ ?_; clear hX X)
 | (refine ZG ?_; try clear hall all)
 | (refine hK _ _ ?_; clear hK K)
 | refine ZL ?_
 | (refine v_0 _ _ ?_; try clear v_0 V_0)
 | (refine v_1 _ _ ?_; try clear v_1 V_1)
 | ((first | refine qr 7 [2,3] ?_ | refine Zh (a := .seq (.region 4 _ _) _) [4] ?_ | refine qr 3 [1,4] ?_ | refine Zh (a := .seq (.region 1 _ _) _) [1] ?_ | refine qr 0 [1] ?_); intro V_0 v_0)
 | ((first | refine qr 6 [2,3] ?_ | refine qr 5 [4,24] ?_ | refine qr 4 [1,4,5,6] ?_ | refine qr 2 [2,3] ?_ | refine qr 1 [1,10] ?_); intro V_1 v_1)
 | (refine ZM ?_; intro K hK)
 | (refine ZN ?_; intro all hall K hK)
 | (refine ZQ ?_ ?_)
 | refine ZT ?_ | refine ZU ?_ | refine ZW ?_)
  all_goals try clear v_1 V_1
  all_goals try clear v_0 V_0
  all_goals (try simp only [inR])
  all_goals first
    | omega
    | exact gText_len hp.1 hp.2
    | (rw [join_f0 hq]; exact ⟨rfl, rfl⟩)
    | (rw [join_f1 hq]; exact ⟨rfl, rfl⟩)
    | (rw [join_f2 hb]; exact ⟨rfl, rfl⟩)
    | (rw [join_t (by assumption) hb]; exact ⟨rfl, rfl⟩)
    | skip
theorem sound_95 : Sound Tryz.prog 95 .body (norm s95) := by
  refine sb Tryz.func95 rfl (by kernel_rfl) G95_ok (by kernel_rfl) fun ds p r hs hp => ?_
  unfold s95 at hs
  split at hs
  · cases hs; exact ⟨Nat.le_of_ble_eq_true (by kernel_rfl), wk95 _ _ _ _ _ hp⟩
  · cases hs
noncomputable def s193 : Cs := fun ds => match ds with
  | [.sl .u64 a] => some (a.length ≤ 100000000, .one (.v (.int .i64 (sz a))))
  | _ => none
theorem s193_eq (a : List Int) : norm s193 [.sl .u64 a] = s193 [.sl .u64 a] := rfl
theorem s193_nil1  : norm s193 [.v (.slice none 0 0)] = s193 [.sl .u64 []] := rfl
noncomputable def G193 : Gam := []
theorem G193_ok : Gk Tryz.prog G193 := Gn
theorem wk193 (a : List Int) (hp : a.length ≤ 100000000) : awp ty G193 (code Tryz.f193) (retP ty Tryz.f193.results.toList (.one (.v (.int .i64 (sz a))))) (entry 0 [.sl .u64 a]) [] := by
  unfold code
  simp only [Tryz.f193, Option.getD_some]
  all_goals repeat' (first
 | ((with_reducible first | (refine ZA ?_; intro X hX) | (show awp _ _ _ _ (Kp _ _) _) | refine ZD ?_ | refine ZE ?_ | refine ZF ?_ | ((show Bg _ _ _ _ _); simp only [hall]) | (refine ZR ?_ ?_ <;> intro hb <;> (try simp only [hb]) <;> have hq := hb <;> try simp only [HQ] at hq)) <;> try simp only [Go.AM.SS, Nat.reduceAdd, Nat.reduceMul, Nat.reduceSub, ↓reduceIte, Nat.reduceEqDiff, Nat.reduceLT, Nat.reduceLeDiff, reduceCtorEq, Int.reduceBEq, Int.reduceBNe, Nat.reduceBEq, Int.reduceEq, Int.reduceToNat, Int.reduceLE, Int.reduceLT, Nat.reduceDiv, Int.reduceAdd, Int.reduceSub, Int.reduceMul, Int.reduceNeg, Int.reduceGT, Int.reduceGE, Nat.reduceMod, ty_3, ty_22, ty_50])
 | with_reducible first
 | (refine hX _ _ ?_; clear hX X)
 | (refine ZG ?_; try clear hall all)
 | (refine hK _ _ ?_; clear hK K)
 | refine ZL ?_
 | (refine v_0 _ _ ?_; try clear v_0 V_0)
 | (refine v_1 _ _ ?_; try clear v_1 V_1)
 | (refine v_2 _ _ ?_; try clear v_2 V_2)
    | (with_reducible refine awp_lp (σ := Nat) (fun n => n ≤ a.length ∧ ∀ i, n ≤ i → a.getD i 0 = 0) (fun n => [(0, .rd .u64 a), (3, .v (.int .i64 n))]) (fun _ => []) (fun n => n) a.length ?_ ?_ (fun s hs => ?_))
 | ((first | refine qr 4 [2] ?_ | refine qb 0 [3] ?_ | refine qr 1 [0,3] ?_ | refine qr 0 [0] ?_); intro V_0 v_0)
 | ((first | refine Zh (a := .seq (.region 2 _ _) _) [0,3] ?_); intro V_1 v_1)
 | ((first | refine qr 2 [0,3,15] ?_); intro V_2 v_2)
 | (refine ZM ?_; intro K hK)
 | (refine ZN ?_; intro all hall K hK)
 | (refine ZQ ?_ ?_)
 | (refine Zg ?_; simp only [↓reduceIte, Nat.reduceEqDiff])
 | refine ZS ?_ | refine ZT ?_ | refine ZU ?_ | refine ZV ?_ | refine ZW ?_ | refine ZX ?_ | refine ZY ?_ | refine ZZ ?_ | refine Za ?_ | refine Ze ?_ | refine Zf ?_)
  all_goals try clear v_2 V_2
  all_goals try clear v_1 V_1
  all_goals try clear v_0 V_0
  all_goals (try simp only [inR])
  · exact ⟨Nat.le_refl _, fun i hi => by simp [List.getD, List.getElem?_eq_none hi]⟩
  · exact Ent.refl _ _
  · omega
  · omega
  · omega
  · refine ⟨s - 1, by (refine Eo [] rfl ?_ ?_ <;> simp only [Me, Sl, AvLe, lk, ↓reduceIte, Nat.reduceEqDiff, Option.isSome_some, and_self, and_true, true_and, reduceCtorEq, List.map_nil, List.map_cons, Option.some.injEq, AV.v.injEq, Value.int.injEq, Value.bool.injEq, AV.rd.injEq, AV.ow.injEq, AV.al.injEq, AV.ref.injEq] <;> omega), ⟨by omega, fun i hi => ?_⟩, by omega⟩
    by_cases h : s ≤ i
    · exact hs.2 i h
    · have : i = s - 1 := by omega
      subst this
      have e : ((s : Int) - 1).toNat = s - 1 := by omega
      rw [e] at hq
      exact hq
  · have e : ((s : Int) - 1).toNat = s - 1 := by omega
    rw [e] at hq
    rw [sz_eq s hs.1 hs.2 (.inr hq)]
  · rw [sz_eq s hs.1 hs.2 (.inl (by omega))]
theorem sound_193 : Sound Tryz.prog 193 .body (norm s193) := by
  refine sb Tryz.func193 rfl (by kernel_rfl) G193_ok (by kernel_rfl) fun ds p r hs hp => ?_
  unfold s193 at hs
  split at hs
  · cases hs; exact ⟨Nat.le_of_ble_eq_true (by kernel_rfl), wk193 _ hp⟩
  · cases hs
end Go.Proofs.AMT
