/- Part AmS5 of the proof: own text. -/
import Derived.Test.YtknejocjkjpfmaaAmS4
set_option linter.all false
namespace Go.AM
open Go.RowKit (Below)
variable {P : Program} {V : Nat → Prop} {β : Nat → Option Nat} {w0 w w' : World} {N : Nat} {e : Env} {m : Mem} {a : Act}
variable {ty : Ty} {Γ : Gam} {d : Option Tmp} {tt : TypeId} {pos : String} {after : Array Edge} {g : Option (Nat × Bool)}

theorem yes_bin (h : RepB V β w0 N e m a w) {o : BinOp} {t t' : TypeId} {x y : Operand} {u v : Value} (hx : opd ⟨e, m⟩ x = .v u) (hy : opd ⟨e, m⟩ y = .v v) {p : Prop} {r : Value} (hb : bin o u v = some (p, r)) (hp : p)
    (hbool : ∀ b c, u = .bool b → v = .bool c → P.underlying t = some .bool) : Yes P V ⟨d, .binOp o t x y t', tt, pos, after, g⟩ w0 N e m a w (.v r) := by
  refine .same h (v := r) ?_ rfl
  have h1 : ∀ a b, ¬ (u = .agg a ∧ v = .agg b) := fun a b ⟨e1, e2⟩ => by subst e1 e2; simp [bin] at hb
  have h2 : u ≠ .nilIface := fun e1 => by subst e1; simp [bin] at hb
  simp [execOp, opd_v h hx, opd_v h hy, eqGuard_int o t x y u v w h1 h2, run_bin o t u v hb hp w hbool]
theorem yes_eq_agg (h : RepB V β w0 N e m a w) {t t' : TypeId} {i : TI} (ht : TyOk P t i) {x y : Operand} {u v : Array Value} (hx : opd ⟨e, m⟩ x = .v (.agg u)) (hy : opd ⟨e, m⟩ y = .v (.agg v)) (hl : i.leaf ≠ []) (hu : fits i.leaf u.toList = true) (hv : fits i.leaf v.toList = true)
    {b : Bool} (hb : leafEq u.toList v.toList = some b) : Yes P V ⟨d, .binOp .eql t x y t', tt, pos, after, g⟩ w0 N e m a w (.v (.bool b)) := by
  refine .same h (v := .bool b) ?_ rfl
  obtain ⟨hg, hq⟩ := ht.eq hl
  simp [execOp, opd_v h hx, opd_v h hy, eqGuard, hg, binOp, hq u v b w hu hv hb]
theorem yes_neq_agg (h : RepB V β w0 N e m a w) {t t' : TypeId} {i : TI} (ht : TyOk P t i) {x y : Operand} {u v : Array Value} (hx : opd ⟨e, m⟩ x = .v (.agg u)) (hy : opd ⟨e, m⟩ y = .v (.agg v)) (hl : i.leaf ≠ []) (hu : fits i.leaf u.toList = true) (hv : fits i.leaf v.toList = true)
    {b : Bool} (hb : leafEq u.toList v.toList = some b) : Yes P V ⟨d, .binOp .neq t x y t', tt, pos, after, g⟩ w0 N e m a w (.v (.bool (!b))) := by
  refine .same h (v := .bool (!b)) ?_ rfl
  obtain ⟨hg, hq⟩ := ht.eq hl
  simp [execOp, opd_v h hx, opd_v h hy, eqGuard, hg, binOp, hq u v b w hu hv hb]
theorem yes_un (h : RepB V β w0 N e m a w) {o : UnOp} {t : TypeId} {x : Operand} {u : Value} (hx : opd ⟨e, m⟩ x = .v u) {p : Prop} {r : Value} (hb : un o u = some (p, r)) (hp : p) :
    Yes P V ⟨d, .unOp o t x, tt, pos, after, g⟩ w0 N e m a w (.v r) := by
  refine .same h (v := r) ?_ rfl
  unfold un at hb
  split at hb
  · simp only [Option.some.injEq, Prod.mk.injEq] at hb
    obtain ⟨rfl, rfl⟩ := hb
    simp [execOp, opd_v h hx, Op.unary]
  · simp only [Option.some.injEq] at hb
    have := arr_ok hb hp
    subst this
    simp [execOp, opd_v h hx, Op.unary, Op.intArith]
  · rename_i k n
    split at hb
    · cases hb
    · rename_i hs
      simp only [Option.some.injEq, Prod.mk.injEq] at hb
      obtain ⟨rfl, rfl⟩ := hb
      have : k.signed = false := by cases k <;> simp_all [sgn, IntKind.signed]
      simp [execOp, opd_v h hx, Op.unary, Op.intBits, bits, this]
  · cases hb
theorem yes_convert (h : RepB V β w0 N e m a w) {t t' : TypeId} {i : TI} (ht : TyOk P t' i) (hsrc : (P.underlying t).isSome = true) {k : IntKind} (hi : i.kind = .int k) {x : Operand} {u : Value} (hx : opd ⟨e, m⟩ x = .v u) {p : Prop} {r : Value} (hb : conv k u = some (p, r)) (hp : p) :
    Yes P V ⟨d, .convert t t' x, tt, pos, after, g⟩ w0 N e m a w (.v r) := by
  refine .same h (v := r) ?_ rfl
  have hkd := ht.kind
  rw [hi] at hkd
  unfold conv at hb
  split at hb
  · simp only [Option.some.injEq] at hb
    have := arr_ok hb hp
    subst this
    obtain ⟨dd, hdd⟩ := Option.isSome_iff_exists.1 hsrc
    simp [execOp, opd_v h hx, convert, run_underlying hdd, run_underlying hkd.1, Conv.intToInt]
  · rename_i s b
    obtain ⟨n, hn, hb⟩ := Option.map_eq_some_iff.1 hb
    simp only [Prod.mk.injEq] at hb
    obtain ⟨rfl, rfl⟩ := hb
    have := run_convert_float_int w t t' s k b n hsrc hkd.1 hn
    simp only [execOp, opd_v h hx]
    simp [this]
  · cases hb
theorem yes_convertF (h : RepB V β w0 N e m a w) {t t' : TypeId} {i : TI} (ht : TyOk P t' i) (hsrc : (P.underlying t).isSome = true) {k : FloatKind} (hi : i.kind = .float k) {x : Operand} {u : Value} (hx : opd ⟨e, m⟩ x = .v u) {r : Value} (hb : convF k u = some r) :
    Yes P V ⟨d, .convert t t' x, tt, pos, after, g⟩ w0 N e m a w (.v r) := by
  refine .same h (v := r) ?_ rfl
  have hkd := ht.kind
  rw [hi] at hkd
  unfold convF at hb
  split at hb
  · rename_i q n
    cases hb
    have := run_convert_int_float w t t' q k n hsrc hkd.1
    simp only [execOp, opd_v h hx]
    simp [this]
  · rename_i s b
    obtain ⟨q, hq, rfl⟩ := Option.map_eq_some_iff.1 hb
    have := run_convert_float_float w t t' s k b q hsrc hkd.1 hq
    simp only [execOp, opd_v h hx]
    simp [this]
  · cases hb

theorem run_sb (h : RepB V β w0 N e m a w) {lo ho : Option Operand} {l hh : Int} {n cap : Nat} (hlo : lo? ⟨e, m⟩ lo = some l) (hhi : hi? ⟨e, m⟩ n ho = some hh) (h0 : 0 ≤ l) (h1 : l ≤ hh) (h2 : hh ≤ n) (hn : n ≤ cap) (sl : Bool) :
    (Instr.sliceBounds sl n cap (lo.map a.eval) (ho.map a.eval) none).run P w = .ok (l.toNat, hh.toNat, cap) w := by
  have H : ∀ (v : Option Value), (match v with | none => hh = n | some u => ∃ k, u = .int k hh) → ∀ (u : Option Value), (match u with | none => l = 0 | some u => ∃ k, u = .int k l) →
      (Instr.sliceBounds sl n cap u v none).run P w = .ok (l.toNat, hh.toNat, cap) w := by
    intro v hv u hu
    have e2 : (hh.toNat : Int) = hh := Int.toNat_of_nonneg (by omega)
    cases v with
    | none =>
      subst hv
      cases u with
      | none => subst hu; simp [Instr.sliceBounds]
      | some u => obtain ⟨k, rfl⟩ := hu; simp [Instr.sliceBounds, run_sliceBound w k l n _ h0 h1]
    | some v =>
      obtain ⟨k, rfl⟩ := hv
      have hb := run_sliceBound (P := P) w k hh cap (if sl then .sliceAcap else .sliceAlen) (by omega) (by omega)
      cases u with
      | none => subst hu; simp [Instr.sliceBounds, hb]
      | some u => obtain ⟨k', rfl⟩ := hu; simp [Instr.sliceBounds, hb, run_sliceBound w k' l hh.toNat _ h0 (by omega)]
  refine H _ ?_ _ ?_
  · cases ho with
    | none => simp [hi?] at hhi; simp [hhi]
    | some x => exact opd_int h hhi
  · cases lo with
    | none => simp [lo?] at hlo; simp [← hlo]
    | some x => exact opd_int h hlo
theorem run_sliceAt (h : RepB V β w0 N e m a w) {t : TypeId} {i : TI} (ht : TyOk P t i) {el : TypeId} (hi : i.kind = .slice el) {ei : TI} (hel : TyOk P el ei) (hs1 : ei.size = 1) {x : Operand} {A : Option Addr} {n cap : Nat} (hx : a.eval x = .slice A n cap)
    {lo ho : Option Operand} {l hh : Int} (hlo : lo? ⟨e, m⟩ lo = some l) (hhi : hi? ⟨e, m⟩ n ho = some hh) (h0 : 0 ≤ l) (h1 : l ≤ hh) (h2 : hh ≤ n) (hn : n ≤ cap) :
    (execOp a.eval ⟨d, .slice t x lo ho none, tt, pos, after, g⟩).run P w = .ok (.value (.slice (if cap = l.toNat then A else A.map (·.add l.toNat)) (hh.toNat - l.toNat) (cap - l.toNat))) w := by
  have hkd := ht.kind
  rw [hi] at hkd
  simp [execOp, Instr.sliceAt, run_underlying hkd.1, hx, Instr.slice, run_sb h hlo hhi h0 h1 h2 hn true, hel.run_size, hs1]
theorem Addr.add_add (ad : Addr) (i j : Nat) : (ad.add i).add j = ad.add (i + j) := by
  unfold Addr.add
  by_cases hi : i = 0 <;> by_cases hj : j = 0 <;> simp [hi, hj, Nat.add_assoc]
theorem Addr.add_block (ad : Addr) (i : Nat) : (ad.add i).block = ad.block := by unfold Addr.add; split <;> rfl
theorem yes_slice_rd (h : RepB V β w0 N e m a w) {t : TypeId} {i : TI} (ht : TyOk P t i) {el : TypeId} (hi : i.kind = .slice el) {ei : TI} (hel : TyOk P el ei) (hs1 : ei.size = 1) {x : Operand} {k : IntKind} {ns : List Int} (hx : opd ⟨e, m⟩ x = .rd k ns)
    {lo ho : Option Operand} {l hh : Int} (hlo : lo? ⟨e, m⟩ lo = some l) (hhi : hi? ⟨e, m⟩ ns.length ho = some hh) (hp : 0 ≤ l ∧ l ≤ hh ∧ hh ≤ ns.length) :
    Yes P V ⟨d, .slice t x lo ho none, tt, pos, after, g⟩ w0 N e m a w (.rd k ((ns.take hh.toNat).drop l.toNat)) := by
  obtain ⟨A, cap, hv, hc1, hc2, h4⟩ := opd_rd h hx
  refine .same h (run_sliceAt h ht hi hel hs1 hv hlo hhi hp.1 hp.2.1 hp.2.2 hc1) ?_
  have hlen0 : ((ns.take hh.toNat).drop l.toNat).length = hh.toNat - l.toNat := by simp; omega
  refine ⟨(if cap = l.toNat then A else A.map (·.add l.toNat)), cap - l.toNat, by rw [hlen0], by omega, by omega, fun hne => ?_⟩
  · have hlen : 0 < ((ns.take hh.toNat).drop l.toNat).length := List.length_pos_iff.2 hne
    simp only [List.length_drop, List.length_take] at hlen
    obtain ⟨ad, rfl, hap, hcell⟩ := h4 (by intro h0; subst h0; simp at hlen)
    have hne' : ¬ cap = l.toNat := by omega
    rw [if_neg hne']
    refine ⟨ad.add l.toNat, rfl, by rw [Addr.add_block]; exact hap, fun j hj => ?_⟩
    simp only [List.length_drop, List.length_take] at hj
    rw [Addr.add_add, hcell _ (by omega)]
    simp only [List.getD_eq_getElem?_getD, List.getElem?_drop, List.getElem?_take]
    rw [if_pos (by omega)]
theorem yes_slice_ow (h : RepB V β w0 N e m a w) {t : TypeId} {i : TI} (ht : TyOk P t i) {el : TypeId} (hi : i.kind = .slice el) {ei : TI} (hel : TyOk P el ei) (hs1 : ei.size = 1) {x : Operand} {key : Nat} (hx : opd ⟨e, m⟩ x = .ow key) {c : Ct} {fr : Bool} (hk : m key = some (c, fr))
    {lo ho : Option Operand} {l hh : Int} (hlo : lo? ⟨e, m⟩ lo = some l) (hhi : hi? ⟨e, m⟩ c.len ho = some hh) (hp : 0 ≤ l ∧ l ≤ hh ∧ hh ≤ c.len) :
    Yes P V ⟨d, .slice t x lo ho none, tt, pos, after, g⟩ w0 N e m a w (.al key l.toNat (hh.toNat - l.toNat)) := by
  obtain ⟨c', fr', cap, hk', hc2, hc1, h4⟩ := opd_ow h hx
  rw [hk] at hk'; cases hk'
  rcases h4 with ⟨hb, h0, hv⟩ | ⟨b, hb, hv⟩
  · have hl0 : l = 0 := by omega
    have hh0 : hh = 0 := by omega
    subst hl0 hh0
    refine .same h (run_sliceAt h ht hi hel hs1 hv hlo (by rw [← h0]; exact hhi) hp.1 hp.2.1 (by omega) (Nat.le_refl _)) ?_
    exact ⟨⟨c, fr, hk, by simp⟩, none, 0, by simp, by simp, ⟨by simp [maxLen], fun b hb' => by rw [hb] at hb'; cases hb'⟩, fun _ => .inl ⟨hb, rfl, rfl, rfl⟩⟩
  · refine .same h (run_sliceAt h ht hi hel hs1 hv hlo hhi hp.1 hp.2.1 hp.2.2 hc1) ?_
    refine ⟨⟨c, fr, hk, by omega⟩, _, _, rfl, by omega, ⟨by have := hc2.1; omega, fun b' hb' => by have := hc2.2 b' hb'; omega⟩, fun hor => .inr ⟨b, hb, ?_⟩⟩
    split
    · rename_i hcl
      have : l.toNat = 0 := by omega
      rw [this]
    · simp [Addr.add_plain]
theorem yes_slice_al (h : RepB V β w0 N e m a w) {t : TypeId} {i : TI} (ht : TyOk P t i) {el : TypeId} (hi : i.kind = .slice el) {ei : TI} (hel : TyOk P el ei) (hs1 : ei.size = 1) {x : Operand} {key o n : Nat} (hx : opd ⟨e, m⟩ x = .al key o n)
    {lo ho : Option Operand} {l hh : Int} (hlo : lo? ⟨e, m⟩ lo = some l) (hhi : hi? ⟨e, m⟩ n ho = some hh) (hp : 0 ≤ l ∧ l ≤ hh ∧ hh ≤ n) :
    Yes P V ⟨d, .slice t x lo ho none, tt, pos, after, g⟩ w0 N e m a w (.al key (o + l.toNat) (hh.toNat - l.toNat)) := by
  obtain ⟨hs, A, cap, hv, hc1, hc2, h4⟩ := opd_al h hx
  refine .same h (run_sliceAt h ht hi hel hs1 hv hlo hhi hp.1 hp.2.1 hp.2.2 hc1) ?_
  obtain ⟨cc, ffr, hcc, hlen⟩ := hs
  refine ⟨⟨cc, ffr, hcc, by omega⟩, _, _, rfl, by omega, ⟨by have := hc2.1; omega, fun b' hb' => by have := hc2.2 b' hb'; omega⟩, fun hor => ?_⟩
  rcases h4 (by omega) with ⟨hb, rfl, h0, h00⟩ | ⟨b, hb, rfl⟩
  · refine .inl ⟨hb, by simp, by omega, by omega⟩
  · refine .inr ⟨b, hb, ?_⟩
    split
    · rename_i hcl
      have : l.toNat = 0 := by omega
      rw [this]
      rfl
    · simp [Addr.add_plain]
theorem yes_slice_nil (h : RepB V β w0 N e m a w) {t : TypeId} {i : TI} (ht : TyOk P t i) {el : TypeId} (hi : i.kind = .slice el) {ei : TI} (hel : TyOk P el ei) (hs1 : ei.size = 1) {x : Operand} {u : Nat} (hx : opd ⟨e, m⟩ x = .v (.slice none 0 0))
    {lo ho : Option Operand} {l hh : Int} (hlo : lo? ⟨e, m⟩ lo = some l) (hhi : hi? ⟨e, m⟩ 0 ho = some hh) (hp : l = 0 ∧ hh = 0) :
    Yes P V ⟨d, .slice t x lo ho none, tt, pos, after, g⟩ w0 N e m a w (.v (.slice none 0 0)) := by
  obtain ⟨rfl, rfl⟩ := hp
  refine .same h (run_sliceAt h ht hi hel hs1 (opd_v h hx) hlo hhi (by omega) (by omega) (by omega) (Nat.le_refl _)) ?_
  show _ = _
  simp
theorem yes_slice_str (h : RepB V β w0 N e m a w) {t : TypeId} {i : TI} (ht : TyOk P t i) (hi : i.kind = .str) {x : Operand} {s : ByteArray} (hx : opd ⟨e, m⟩ x = .v (.string s))
    {lo ho : Option Operand} {l hh : Int} (hlo : lo? ⟨e, m⟩ lo = some l) (hhi : hi? ⟨e, m⟩ s.size ho = some hh) (hp : 0 ≤ l ∧ l ≤ hh ∧ hh ≤ s.size) :
    Yes P V ⟨d, .slice t x lo ho none, tt, pos, after, g⟩ w0 N e m a w (.v (.string (s.extract l.toNat hh.toNat))) := by
  have hkd := ht.kind
  rw [hi] at hkd
  refine .same h (v := .string (s.extract l.toNat hh.toNat)) ?_ rfl
  simp [execOp, Instr.sliceAt, run_underlying hkd.1, opd_v h hx, Instr.slice, run_sb h hlo hhi hp.1 hp.2.1 hp.2.2 (Nat.le_refl _) false]
theorem yes_slice_arr (h : RepB V β w0 N e m a w) {t : TypeId} {i : TI} (ht : TyOk P t i) {n : Nat} {el : TypeId} (hi : i.kind = .arr n el) {ei : TI} (hel : TyOk P el ei) (hs1 : ei.size = 1) (hn : n ≤ 1000000) {x : Operand} {key off : Nat} (hx : opd ⟨e, m⟩ x = .ref key off)
    {lo ho : Option Operand} {l hh : Int} (hlo : lo? ⟨e, m⟩ lo = some l) (hhi : hi? ⟨e, m⟩ n ho = some hh) (hp : 0 ≤ l ∧ l ≤ hh ∧ hh ≤ n) {cc : Ct} {ffr : Bool} (hcc : m key = some (cc, ffr)) (hfit : off + n ≤ cc.len) :
    Yes P V ⟨d, .slice t x lo ho none, tt, pos, after, g⟩ w0 N e m a w (.al key (off + l.toNat) (hh.toNat - l.toNat)) := by
  have hkd := ht.kind
  rw [hi] at hkd
  obtain ⟨c, fr, b, hk, hb, hv⟩ := opd_ref h hx
  refine .same h (v := .slice (some (if n = l.toNat then ⟨b, off, none⟩ else ⟨b, off + l.toNat, none⟩)) (hh.toNat - l.toNat) (n - l.toNat)) ?_ ⟨⟨cc, ffr, hcc, by omega⟩, _, _, rfl, by omega, ⟨by simp only [maxLen]; omega, fun b' hb' => by have := h.bsz hcc hb'; omega⟩, fun hor => .inr ⟨b, hb, ?_⟩⟩
  · simp [execOp, Instr.sliceAt, run_underlying hkd.1, hv, Instr.sureAddr, run_sb h hlo hhi hp.1 hp.2.1 hp.2.2 (Nat.le_refl _) false, hel.run_size, hs1, Addr.add_plain]
  · split
    · have : l.toNat = 0 := by omega
      rw [this, Nat.add_zero]
    · rfl
theorem yes_len_str (h : RepB V β w0 N e m a w) {t : TypeId} {i : TI} (ht : TyOk P t i) (hi : i.kind = .str) {x : Operand} {s : ByteArray} (hx : opd ⟨e, m⟩ x = .v (.string s)) :
    Yes P V ⟨d, .call ⟨.builtin .len, #[x], #[t]⟩, tt, pos, after, g⟩ w0 N e m a w (.v (.int .i64 s.size)) := by
  have hkd := ht.kind
  rw [hi] at hkd
  refine .same h (v := .int .i64 s.size) ?_ rfl
  simp [execOp, resolve, invoke, builtin, Builtin.len_, run_underlying hkd.1, opd_v h hx, goInt]
theorem opd_len (h : RepB V β w0 N e m a w) {x : Operand} {n : Nat} (hn : slLen ⟨e, m⟩ (opd ⟨e, m⟩ x) = some n) : ∃ A cap, a.eval x = .slice A n cap ∧ n ≤ cap := by
  unfold slLen at hn
  split at hn
  · rename_i k l hx
    cases hn
    obtain ⟨A, cap, hv, h1, _⟩ := opd_rd h hx
    exact ⟨A, cap, hv, h1⟩
  · rename_i key hx
    obtain ⟨c, fr, cap, hk, _, hc1, h4⟩ := opd_ow h hx
    simp only [hk, Option.map_some, Option.some.injEq] at hn
    subst hn
    rcases h4 with ⟨_, h0, hv⟩ | ⟨b, _, hv⟩
    · exact ⟨none, 0, by rw [h0]; exact hv, by omega⟩
    · exact ⟨_, cap, hv, hc1⟩
  · rename_i key lo k hx
    cases hn
    obtain ⟨_, A, cap, hv, h1, _⟩ := opd_al h hx
    exact ⟨A, cap, hv, h1⟩
  · rename_i hx
    cases hn
    exact ⟨none, 0, opd_v h hx, Nat.le_refl _⟩
  · cases hn
end Go.AM
