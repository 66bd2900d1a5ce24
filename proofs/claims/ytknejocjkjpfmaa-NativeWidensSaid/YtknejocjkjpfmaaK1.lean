/- Part 1 of the proof: own text (AmS5, AmS6, AmS7, AmS8, AmS9, AmS10). -/
import Derived.Test.YtknejocjkjpfmaaK0
set_option linter.all false
namespace Go.AM
open Go.RowKit (Below)
variable {P : Program} {V : Nat → Prop} {β : Nat → Option Nat} {w0 w w' : World} {N : Nat} {e : Env} {m : Mem} {a : Act}
variable {ty : Ty} {Γ : Gam} {d : Option Tmp} {tt : TypeId} {pos : String} {after : Array Edge} {g : Option (Nat × Bool)}

theorem yes_bin (h : RepB V β w0 N e m a w) {o : BinOp} {t t' : TypeId} {x y : Operand} {u v : Value} (hx : opd ⟨e, m⟩ x = .v u) (hy : opd ⟨e, m⟩ y = .v v) {p : Prop} {r : Value} (hb : bin o u v = some (p, r)) (hp : p)
    (hbool : ∀ b c, u = .bool b → v = .bool c → P.underlying t = some .bool) : Yes P V ⟨d, .binOp o t x y t', tt, pos, after, g⟩ w0 N e m a w (.v r) := by
  refine .same h (v := r) ?_ rfl
  have h1 : ∀ a b, ¬ (u = .agg a ∧ v = .agg b) := fun a b ⟨e1, e2⟩ => by subst e1 e2; simp [bin] at hb
  have h2 : u ≠ .nilIface := fun e1 => by subst e1; simp [bin] at hb
  simp [execOp, opd_v h hx, opd_v h hy, eqGuard_int o t x y u v w h1 h2, run_bin o t u v hb hp w hbool]
theorem yes_eq_agg (h : RepB V β w0 N e m a w) {t t' : TypeId} {i : TI} (ht : TyOk P t i) {x y : Operand} {u v : Array Value} (hx : opd ⟨e, m⟩ x = .v (.agg u)) (hy : opd ⟨e, m⟩ y = .v (.agg v)) (hl : i.leaf ≠ []) (hu : fits i.leaf u.toList = true) (hv : fits i.leaf v.toList = true)
    {b : Bool} (hb : leafEq u.toList v.toList = some b) : Yes P V ⟨d, .binOp .eql t x y t', tt, pos, after, g⟩ w0 N e m a w (.v (.bool b)) := by
  refine .same h (v := .bool b) ?_ rfl
  obtain ⟨hg, hq⟩ := ht.eq hl
  simp [execOp, opd_v h hx, opd_v h hy, eqGuard, hg, binOp, hq u v b w hu hv hb]
theorem yes_neq_agg (h : RepB V β w0 N e m a w) {t t' : TypeId} {i : TI} (ht : TyOk P t i) {x y : Operand} {u v : Array Value} (hx : opd ⟨e, m⟩ x = .v (.agg u)) (hy : opd ⟨e, m⟩ y = .v (.agg v)) (hl : i.leaf ≠ []) (hu : fits i.leaf u.toList = true) (hv : fits i.leaf v.toList = true)
    {b : Bool} (hb : leafEq u.toList v.toList = some b) : Yes P V ⟨d, .binOp .neq t x y t', tt, pos, after, g⟩ w0 N e m a w (.v (.bool (!b))) := by
  refine .same h (v := .bool (!b)) ?_ rfl
  obtain ⟨hg, hq⟩ := ht.eq hl
  simp [execOp, opd_v h hx, opd_v h hy, eqGuard, hg, binOp, hq u v b w hu hv hb]
theorem yes_un (h : RepB V β w0 N e m a w) {o : UnOp} {t : TypeId} {x : Operand} {u : Value} (hx : opd ⟨e, m⟩ x = .v u) {p : Prop} {r : Value} (hb : un o u = some (p, r)) (hp : p) :
    Yes P V ⟨d, .unOp o t x, tt, pos, after, g⟩ w0 N e m a w (.v r) := by
  refine .same h (v := r) ?_ rfl
  unfold un at hb
  split at hb
  · simp only [Option.some.injEq, Prod.mk.injEq] at hb
    obtain ⟨rfl, rfl⟩ := hb
    simp [execOp, opd_v h hx, Op.unary]
  · simp only [Option.some.injEq] at hb
    have := arr_ok hb hp
    subst this
    simp [execOp, opd_v h hx, Op.unary, Op.intArith]
  · rename_i k n
    split at hb
    · cases hb
    · rename_i hs
      simp only [Option.some.injEq, Prod.mk.injEq] at hb
      obtain ⟨rfl, rfl⟩ := hb
      have : k.signed = false := by cases k <;> simp_all [sgn, IntKind.signed]
      simp [execOp, opd_v h hx, Op.unary, Op.intBits, bits, this]
  · cases hb
theorem yes_convert (h : RepB V β w0 N e m a w) {t t' : TypeId} {i : TI} (ht : TyOk P t' i) (hsrc : (P.underlying t).isSome = true) {k : IntKind} (hi : i.kind = .int k) {x : Operand} {u : Value} (hx : opd ⟨e, m⟩ x = .v u) {p : Prop} {r : Value} (hb : conv k u = some (p, r)) (hp : p) :
    Yes P V ⟨d, .convert t t' x, tt, pos, after, g⟩ w0 N e m a w (.v r) := by
  refine .same h (v := r) ?_ rfl
  have hkd := ht.kind
  rw [hi] at hkd
  unfold conv at hb
  split at hb
  · simp only [Option.some.injEq] at hb
    have := arr_ok hb hp
    subst this
    obtain ⟨dd, hdd⟩ := Option.isSome_iff_exists.1 hsrc
    simp [execOp, opd_v h hx, convert, run_underlying hdd, run_underlying hkd.1, Conv.intToInt]
  · rename_i s b
    obtain ⟨n, hn, hb⟩ := Option.map_eq_some_iff.1 hb
    simp only [Prod.mk.injEq] at hb
    obtain ⟨rfl, rfl⟩ := hb
    have := run_convert_float_int w t t' s k b n hsrc hkd.1 hn
    simp only [execOp, opd_v h hx]
    simp [this]
  · cases hb
theorem yes_convertF (h : RepB V β w0 N e m a w) {t t' : TypeId} {i : TI} (ht : TyOk P t' i) (hsrc : (P.underlying t).isSome = true) {k : FloatKind} (hi : i.kind = .float k) {x : Operand} {u : Value} (hx : opd ⟨e, m⟩ x = .v u) {r : Value} (hb : convF k u = some r) :
    Yes P V ⟨d, .convert t t' x, tt, pos, after, g⟩ w0 N e m a w (.v r) := by
  refine .same h (v := r) ?_ rfl
  have hkd := ht.kind
  rw [hi] at hkd
  unfold convF at hb
  split at hb
  · rename_i q n
    cases hb
    have := run_convert_int_float w t t' q k n hsrc hkd.1
    simp only [execOp, opd_v h hx]
    simp [this]
  · rename_i s b
    obtain ⟨q, hq, rfl⟩ := Option.map_eq_some_iff.1 hb
    have := run_convert_float_float w t t' s k b q hsrc hkd.1 hq
    simp only [execOp, opd_v h hx]
    simp [this]
  · cases hb

theorem run_sb (h : RepB V β w0 N e m a w) {lo ho : Option Operand} {l hh : Int} {n cap : Nat} (hlo : lo? ⟨e, m⟩ lo = some l) (hhi : hi? ⟨e, m⟩ n ho = some hh) (h0 : 0 ≤ l) (h1 : l ≤ hh) (h2 : hh ≤ n) (hn : n ≤ cap) (sl : Bool) :
    (Instr.sliceBounds sl n cap (lo.map a.eval) (ho.map a.eval) none).run P w = .ok (l.toNat, hh.toNat, cap) w := by
  have H : ∀ (v : Option Value), (match v with | none => hh = n | some u => ∃ k, u = .int k hh) → ∀ (u : Option Value), (match u with | none => l = 0 | some u => ∃ k, u = .int k l) →
      (Instr.sliceBounds sl n cap u v none).run P w = .ok (l.toNat, hh.toNat, cap) w := by
    intro v hv u hu
    have e2 : (hh.toNat : Int) = hh := Int.toNat_of_nonneg (by omega)
    cases v with
    | none =>
      subst hv
      cases u with
      | none => subst hu; simp [Instr.sliceBounds]
      | some u => obtain ⟨k, rfl⟩ := hu; simp [Instr.sliceBounds, run_sliceBound w k l n _ h0 h1]
    | some v =>
      obtain ⟨k, rfl⟩ := hv
      have hb := run_sliceBound (P := P) w k hh cap (if sl then .sliceAcap else .sliceAlen) (by omega) (by omega)
      cases u with
      | none => subst hu; simp [Instr.sliceBounds, hb]
      | some u => obtain ⟨k', rfl⟩ := hu; simp [Instr.sliceBounds, hb, run_sliceBound w k' l hh.toNat _ h0 (by omega)]
  refine H _ ?_ _ ?_
  · cases ho with
    | none => simp [hi?] at hhi; simp [hhi]
    | some x => exact opd_int h hhi
  · cases lo with
    | none => simp [lo?] at hlo; simp [← hlo]
    | some x => exact opd_int h hlo
theorem run_sliceAt (h : RepB V β w0 N e m a w) {t : TypeId} {i : TI} (ht : TyOk P t i) {el : TypeId} (hi : i.kind = .slice el) {ei : TI} (hel : TyOk P el ei) (hs1 : ei.size = 1) {x : Operand} {A : Option Addr} {n cap : Nat} (hx : a.eval x = .slice A n cap)
    {lo ho : Option Operand} {l hh : Int} (hlo : lo? ⟨e, m⟩ lo = some l) (hhi : hi? ⟨e, m⟩ n ho = some hh) (h0 : 0 ≤ l) (h1 : l ≤ hh) (h2 : hh ≤ n) (hn : n ≤ cap) :
    (execOp a.eval ⟨d, .slice t x lo ho none, tt, pos, after, g⟩).run P w = .ok (.value (.slice (if cap = l.toNat then A else A.map (·.add l.toNat)) (hh.toNat - l.toNat) (cap - l.toNat))) w := by
  have hkd := ht.kind
  rw [hi] at hkd
  simp [execOp, Instr.sliceAt, run_underlying hkd.1, hx, Instr.slice, run_sb h hlo hhi h0 h1 h2 hn true, hel.run_size, hs1]
theorem Addr.add_add (ad : Addr) (i j : Nat) : (ad.add i).add j = ad.add (i + j) := by
  unfold Addr.add
  by_cases hi : i = 0 <;> by_cases hj : j = 0 <;> simp [hi, hj, Nat.add_assoc]
theorem Addr.add_block (ad : Addr) (i : Nat) : (ad.add i).block = ad.block := by unfold Addr.add; split <;> rfl
theorem yes_slice_rd (h : RepB V β w0 N e m a w) {t : TypeId} {i : TI} (ht : TyOk P t i) {el : TypeId} (hi : i.kind = .slice el) {ei : TI} (hel : TyOk P el ei) (hs1 : ei.size = 1) {x : Operand} {k : IntKind} {ns : List Int} (hx : opd ⟨e, m⟩ x = .rd k ns)
    {lo ho : Option Operand} {l hh : Int} (hlo : lo? ⟨e, m⟩ lo = some l) (hhi : hi? ⟨e, m⟩ ns.length ho = some hh) (hp : 0 ≤ l ∧ l ≤ hh ∧ hh ≤ ns.length) :
    Yes P V ⟨d, .slice t x lo ho none, tt, pos, after, g⟩ w0 N e m a w (.rd k ((ns.take hh.toNat).drop l.toNat)) := by
  obtain ⟨A, cap, hv, hc1, hc2, h4⟩ := opd_rd h hx
  refine .same h (run_sliceAt h ht hi hel hs1 hv hlo hhi hp.1 hp.2.1 hp.2.2 hc1) ?_
  have hlen0 : ((ns.take hh.toNat).drop l.toNat).length = hh.toNat - l.toNat := by simp; omega
  refine ⟨(if cap = l.toNat then A else A.map (·.add l.toNat)), cap - l.toNat, by rw [hlen0], by omega, by omega, fun hne => ?_⟩
  · have hlen : 0 < ((ns.take hh.toNat).drop l.toNat).length := List.length_pos_iff.2 hne
    simp only [List.length_drop, List.length_take] at hlen
    obtain ⟨ad, rfl, hap, hcell⟩ := h4 (by intro h0; subst h0; simp at hlen)
    have hne' : ¬ cap = l.toNat := by omega
    rw [if_neg hne']
    refine ⟨ad.add l.toNat, rfl, by rw [Addr.add_block]; exact hap, fun j hj => ?_⟩
    simp only [List.length_drop, List.length_take] at hj
    rw [Addr.add_add, hcell _ (by omega)]
    simp only [List.getD_eq_getElem?_getD, List.getElem?_drop, List.getElem?_take]
    rw [if_pos (by omega)]
theorem yes_slice_ow (h : RepB V β w0 N e m a w) {t : TypeId} {i : TI} (ht : TyOk P t i) {el : TypeId} (hi : i.kind = .slice el) {ei : TI} (hel : TyOk P el ei) (hs1 : ei.size = 1) {x : Operand} {key : Nat} (hx : opd ⟨e, m⟩ x = .ow key) {c : Ct} {fr : Bool} (hk : m key = some (c, fr))
    {lo ho : Option Operand} {l hh : Int} (hlo : lo? ⟨e, m⟩ lo = some l) (hhi : hi? ⟨e, m⟩ c.len ho = some hh) (hp : 0 ≤ l ∧ l ≤ hh ∧ hh ≤ c.len) :
    Yes P V ⟨d, .slice t x lo ho none, tt, pos, after, g⟩ w0 N e m a w (.al key l.toNat (hh.toNat - l.toNat)) := by
  obtain ⟨c', fr', cap, hk', hc2, hc1, h4⟩ := opd_ow h hx
  rw [hk] at hk'; cases hk'
  rcases h4 with ⟨hb, h0, hv⟩ | ⟨b, hb, hv⟩
  · have hl0 : l = 0 := by omega
    have hh0 : hh = 0 := by omega
    subst hl0 hh0
    refine .same h (run_sliceAt h ht hi hel hs1 hv hlo (by rw [← h0]; exact hhi) hp.1 hp.2.1 (by omega) (Nat.le_refl _)) ?_
    exact ⟨⟨c, fr, hk, by simp⟩, none, 0, by simp, by simp, ⟨by simp [maxLen], fun b hb' => by rw [hb] at hb'; cases hb'⟩, fun _ => .inl ⟨hb, rfl, rfl, rfl⟩⟩
  · refine .same h (run_sliceAt h ht hi hel hs1 hv hlo hhi hp.1 hp.2.1 hp.2.2 hc1) ?_
    refine ⟨⟨c, fr, hk, by omega⟩, _, _, rfl, by omega, ⟨by have := hc2.1; omega, fun b' hb' => by have := hc2.2 b' hb'; omega⟩, fun hor => .inr ⟨b, hb, ?_⟩⟩
    split
    · rename_i hcl
      have : l.toNat = 0 := by omega
      rw [this]
    · simp [Addr.add_plain]
theorem yes_slice_al (h : RepB V β w0 N e m a w) {t : TypeId} {i : TI} (ht : TyOk P t i) {el : TypeId} (hi : i.kind = .slice el) {ei : TI} (hel : TyOk P el ei) (hs1 : ei.size = 1) {x : Operand} {key o n : Nat} (hx : opd ⟨e, m⟩ x = .al key o n)
    {lo ho : Option Operand} {l hh : Int} (hlo : lo? ⟨e, m⟩ lo = some l) (hhi : hi? ⟨e, m⟩ n ho = some hh) (hp : 0 ≤ l ∧ l ≤ hh ∧ hh ≤ n) :
    Yes P V ⟨d, .slice t x lo ho none, tt, pos, after, g⟩ w0 N e m a w (.al key (o + l.toNat) (hh.toNat - l.toNat)) := by
  obtain ⟨hs, A, cap, hv, hc1, hc2, h4⟩ := opd_al h hx
  refine .same h (run_sliceAt h ht hi hel hs1 hv hlo hhi hp.1 hp.2.1 hp.2.2 hc1) ?_
  obtain ⟨cc, ffr, hcc, hlen⟩ := hs
  refine ⟨⟨cc, ffr, hcc, by omega⟩, _, _, rfl, by omega, ⟨by have := hc2.1; omega, fun b' hb' => by have := hc2.2 b' hb'; omega⟩, fun hor => ?_⟩
  rcases h4 (by omega) with ⟨hb, rfl, h0, h00⟩ | ⟨b, hb, rfl⟩
  · refine .inl ⟨hb, by simp, by omega, by omega⟩
  · refine .inr ⟨b, hb, ?_⟩
    split
    · rename_i hcl
      have : l.toNat = 0 := by omega
      rw [this]
      rfl
    · simp [Addr.add_plain]
theorem yes_slice_nil (h : RepB V β w0 N e m a w) {t : TypeId} {i : TI} (ht : TyOk P t i) {el : TypeId} (hi : i.kind = .slice el) {ei : TI} (hel : TyOk P el ei) (hs1 : ei.size = 1) {x : Operand} {u : Nat} (hx : opd ⟨e, m⟩ x = .v (.slice none 0 0))
    {lo ho : Option Operand} {l hh : Int} (hlo : lo? ⟨e, m⟩ lo = some l) (hhi : hi? ⟨e, m⟩ 0 ho = some hh) (hp : l = 0 ∧ hh = 0) :
    Yes P V ⟨d, .slice t x lo ho none, tt, pos, after, g⟩ w0 N e m a w (.v (.slice none 0 0)) := by
  obtain ⟨rfl, rfl⟩ := hp
  refine .same h (run_sliceAt h ht hi hel hs1 (opd_v h hx) hlo hhi (by omega) (by omega) (by omega) (Nat.le_refl _)) ?_
  show _ = _
  simp
theorem yes_slice_str (h : RepB V β w0 N e m a w) {t : TypeId} {i : TI} (ht : TyOk P t i) (hi : i.kind = .str) {x : Operand} {s : ByteArray} (hx : opd ⟨e, m⟩ x = .v (.string s))
    {lo ho : Option Operand} {l hh : Int} (hlo : lo? ⟨e, m⟩ lo = some l) (hhi : hi? ⟨e, m⟩ s.size ho = some hh) (hp : 0 ≤ l ∧ l ≤ hh ∧ hh ≤ s.size) :
    Yes P V ⟨d, .slice t x lo ho none, tt, pos, after, g⟩ w0 N e m a w (.v (.string (s.extract l.toNat hh.toNat))) := by
  have hkd := ht.kind
  rw [hi] at hkd
  refine .same h (v := .string (s.extract l.toNat hh.toNat)) ?_ rfl
  simp [execOp, Instr.sliceAt, run_underlying hkd.1, opd_v h hx, Instr.slice, run_sb h hlo hhi hp.1 hp.2.1 hp.2.2 (Nat.le_refl _) false]
theorem yes_slice_arr (h : RepB V β w0 N e m a w) {t : TypeId} {i : TI} (ht : TyOk P t i) {n : Nat} {el : TypeId} (hi : i.kind = .arr n el) {ei : TI} (hel : TyOk P el ei) (hs1 : ei.size = 1) (hn : n ≤ 1000000) {x : Operand} {key off : Nat} (hx : opd ⟨e, m⟩ x = .ref key off)
    {lo ho : Option Operand} {l hh : Int} (hlo : lo? ⟨e, m⟩ lo = some l) (hhi : hi? ⟨e, m⟩ n ho = some hh) (hp : 0 ≤ l ∧ l ≤ hh ∧ hh ≤ n) {cc : Ct} {ffr : Bool} (hcc : m key = some (cc, ffr)) (hfit : off + n ≤ cc.len) :
    Yes P V ⟨d, .slice t x lo ho none, tt, pos, after, g⟩ w0 N e m a w (.al key (off + l.toNat) (hh.toNat - l.toNat)) := by
  have hkd := ht.kind
  rw [hi] at hkd
  obtain ⟨c, fr, b, hk, hb, hv⟩ := opd_ref h hx
  refine .same h (v := .slice (some (if n = l.toNat then ⟨b, off, none⟩ else ⟨b, off + l.toNat, none⟩)) (hh.toNat - l.toNat) (n - l.toNat)) ?_ ⟨⟨cc, ffr, hcc, by omega⟩, _, _, rfl, by omega, ⟨by simp only [maxLen]; omega, fun b' hb' => by have := h.bsz hcc hb'; omega⟩, fun hor => .inr ⟨b, hb, ?_⟩⟩
  · simp [execOp, Instr.sliceAt, run_underlying hkd.1, hv, Instr.sureAddr, run_sb h hlo hhi hp.1 hp.2.1 hp.2.2 (Nat.le_refl _) false, hel.run_size, hs1, Addr.add_plain]
  · split
    · have : l.toNat = 0 := by omega
      rw [this, Nat.add_zero]
    · rfl
theorem yes_len_str (h : RepB V β w0 N e m a w) {t : TypeId} {i : TI} (ht : TyOk P t i) (hi : i.kind = .str) {x : Operand} {s : ByteArray} (hx : opd ⟨e, m⟩ x = .v (.string s)) :
    Yes P V ⟨d, .call ⟨.builtin .len, #[x], #[t]⟩, tt, pos, after, g⟩ w0 N e m a w (.v (.int .i64 s.size)) := by
  have hkd := ht.kind
  rw [hi] at hkd
  refine .same h (v := .int .i64 s.size) ?_ rfl
  simp [execOp, resolve, invoke, builtin, Builtin.len_, run_underlying hkd.1, opd_v h hx, goInt]
theorem opd_len (h : RepB V β w0 N e m a w) {x : Operand} {n : Nat} (hn : slLen ⟨e, m⟩ (opd ⟨e, m⟩ x) = some n) : ∃ A cap, a.eval x = .slice A n cap ∧ n ≤ cap := by
  unfold slLen at hn
  split at hn
  · rename_i k l hx
    cases hn
    obtain ⟨A, cap, hv, h1, _⟩ := opd_rd h hx
    exact ⟨A, cap, hv, h1⟩
  · rename_i key hx
    obtain ⟨c, fr, cap, hk, _, hc1, h4⟩ := opd_ow h hx
    simp only [hk, Option.map_some, Option.some.injEq] at hn
    subst hn
    rcases h4 with ⟨_, h0, hv⟩ | ⟨b, _, hv⟩
    · exact ⟨none, 0, by rw [h0]; exact hv, by omega⟩
    · exact ⟨_, cap, hv, hc1⟩
  · rename_i key lo k hx
    cases hn
    obtain ⟨_, A, cap, hv, h1, _⟩ := opd_al h hx
    exact ⟨A, cap, hv, h1⟩
  · rename_i hx
    cases hn
    exact ⟨none, 0, opd_v h hx, Nat.le_refl _⟩
  · cases hn
end Go.AM
namespace Go.AM
open Go.RowKit (Below)
variable {P : Program} {V : Nat → Prop} {β : Nat → Option Nat} {w0 w w' : World} {N : Nat} {e : Env} {m : Mem} {a : Act}
variable {ty : Ty} {Γ : Gam} {d : Option Tmp} {tt : TypeId} {pos : String} {after : Array Edge} {g : Option (Nat × Bool)}

theorem foldl_setL : ∀ (xs : List Value) (off k : Nat) (cs : Array Value), ((xs.zipIdx k).foldl (fun cs (p : Value × Nat) => cs.setIfInBounds (off + p.2) p.1) cs).toList = setL cs.toList (off + k) xs
  | [], _, _, _ => by simp [setL]
  | x :: xs, off, k, cs => by
    rw [List.zipIdx_cons, List.foldl_cons, foldl_setL xs off (k + 1)]
    simp [setL, Nat.add_assoc]
theorem length_setL : ∀ (xs : List Value) (off : Nat) (l : List Value), (setL l off xs).length = l.length
  | [], _, _ => rfl
  | x :: xs, off, l => by simp [setL, length_setL xs]
theorem setL_eq : ∀ (xs : List Value) (off : Nat) (l : List Value), off + xs.length ≤ l.length → setL l off xs = l.take off ++ xs ++ l.drop (off + xs.length)
  | [], off, l, _ => by simp [setL]
  | x :: xs, off, l, h => by
    simp only [List.length_cons] at h
    rw [setL, setL_eq xs (off + 1) (l.set off x) (by simp; omega), list_seg_step l off x xs (by omega)]
    simp
theorem fill_of (h : RepB V β w0 N e m a w) {place place' : Nat → Option (Nat × Nat)} (hpl : ∀ j r, place' j = some r → place j = some r) :
    ∀ (parts : List (Nat × Operand)) (cs cs' : List Value), fillParts place' ⟨e, m⟩ parts cs = some cs' → Instr.fill place cs.toArray (parts.map fun p => (p.1, a.eval p.2)) = some cs'.toArray
  | [], cs, cs', hf => by simp [fillParts] at hf; subst hf; rfl
  | (i, x) :: r, cs, cs', hf => by
    simp only [fillParts] at hf
    split at hf
    · rename_i off size v hp hv
      split at hf
      · rename_i hc
        have hv' : opd ⟨e, m⟩ x = .v v := by unfold valOf at hv; split at hv <;> simp_all
        have hx := opd_v h hv'
        have ih := fill_of h hpl r _ cs' hf
        have hsz : v.cells.size = size := by rw [← hc.1, ← vcells_cells, Array.length_toList]
        have hset : (v.cells.zipIdx.foldl (fun cs (p : Value × Nat) => cs.setIfInBounds (off + p.2) p.1) cs.toArray) = (setL cs off (vcells v)).toArray := by
          apply Array.ext'
          have := foldl_setL v.cells.toList off 0 cs.toArray
          rw [← vcells_cells, ← Array.foldl_toList, Array.toList_zipIdx]
          simpa using this
        simp only [List.map_cons, Instr.fill, hpl i _ hp, hx]
        rw [if_neg (by simp [hsz]; omega)]
        rw [← ih, ← hset]
      · cases hf
    · cases hf
theorem yes_build_struct (h : RepB V β w0 N e m a w) (hty : TysOk P ty) {t : TypeId} {i : TI} (ht : TyOk P t i) {fs : List (Nat × TypeId)} (hi : i.kind = .struct fs) {parts : Array (Nat × Operand)} {cs : List Value}
    (hf : fillParts (fun j => (fs[j]?).bind fun p => (ty p.2).map fun fi => (p.1, fi.size)) ⟨e, m⟩ parts.toList i.zero = some cs) :
    Yes P V ⟨d, .build t parts, tt, pos, after, g⟩ w0 N e m a w (.v (.agg cs.toArray)) := by
  have hkd := ht.kind
  rw [hi] at hkd
  obtain ⟨_, fields, hu, hmap, hsz⟩ := hkd
  obtain ⟨q, hq, hq1, hq2, z, hz, hzc⟩ := ht.info
  have hplaces : ∀ (l : List Field), (∀ f ∈ l, ∃ q, P.info? f.type = some q ∧ q.size ≠ 0) → ∃ pl, l.mapM (fun f => (P.info? f.type).map fun i => (f.offset, i.size)) = some pl ∧ pl = l.map (fun f => (f.offset, P.cellsOf f.type)) := by
    intro l
    induction l with
    | nil => intro _; exact ⟨[], by simp, rfl⟩
    | cons f r ih =>
      intro hh
      obtain ⟨pl, h1, h2⟩ := ih fun x hx => hh x (by simp [hx])
      obtain ⟨q, h3, _⟩ := hh f (by simp)
      exact ⟨(f.offset, q.size) :: pl, by simp [List.mapM_cons, h3, h1], by simp [h2, Program.cellsOf, h3]⟩
  obtain ⟨pl, hpl1, hpl2⟩ := hplaces fields.toList (fun f hf => hsz f (by simpa using hf))
  have hfill := fill_of h (place := fun x => pl.toArray[x]?) (fun j r hj => by
    cases hfj : fs[j]? with
    | none => simp [hfj] at hj
    | some p =>
      obtain ⟨o, ft⟩ := p
      simp only [hfj, Option.bind_some] at hj
      obtain ⟨fi, hfi, rfl⟩ := Option.map_eq_some_iff.1 hj
      rw [← hmap, List.getElem?_map] at hfj
      obtain ⟨f, hf1, hf2⟩ := Option.map_eq_some_iff.1 hfj
      simp only [Prod.mk.injEq] at hf2
      obtain ⟨rfl, rfl⟩ := hf2
      obtain ⟨q', h1, h2, _⟩ := (hty _ _ hfi).info
      have h3 : P.cellsOf f.type = fi.size := by rw [← h2]; simp [Program.cellsOf, h1]
      simp [hpl2, hf1, h3]) _ _ _ hf
  have hb : P.built t (parts.map fun (i, x) => (i, a.eval x)).toList = some cs.toArray := by
    have e1 : z.cells = i.zero.toArray := by rw [← hzc]
    simp only [Program.built, hq, hu, hz, hpl1, e1, Array.toList_map]
    exact hfill
  refine .same h (v := .agg cs.toArray) ?_ rfl
  simp only [execOp, Sem.run_bind, run_build w t _ _ hb, Result.andThen_ok, Sem.run_pure]
theorem yes_build_arr (h : RepB V β w0 N e m a w) {t : TypeId} {i : TI} (ht : TyOk P t i) {n : Nat} {el : TypeId} (hi : i.kind = .arr n el) {ei : TI} (hel : TyOk P el ei) {parts : Array (Nat × Operand)} {cs : List Value}
    (hf : fillParts (fun j => some (j * ei.size, ei.size)) ⟨e, m⟩ parts.toList i.zero = some cs) :
    Yes P V ⟨d, .build t parts, tt, pos, after, g⟩ w0 N e m a w (.v (.agg cs.toArray)) := by
  have hkd := ht.kind
  rw [hi] at hkd
  obtain ⟨q, hq, hq1, hq2, z, hz, hzc⟩ := ht.info
  obtain ⟨q', hq', hq1', _⟩ := hel.info
  have hfill := fill_of h (place := fun j => some (j * q'.size, q'.size)) (fun j r hj => by rw [hq1']; exact hj) _ _ _ hf
  have hb : P.built t (parts.map fun (i, x) => (i, a.eval x)).toList = some cs.toArray := by
    have e1 : z.cells = i.zero.toArray := by rw [← hzc]
    simp only [Program.built, hq, hkd.1, hz, hq', e1, Array.toList_map]
    exact hfill
  refine .same h (v := .agg cs.toArray) ?_ rfl
  simp only [execOp, Sem.run_bind, run_build w t _ _ hb, Result.andThen_ok, Sem.run_pure]
theorem toInts_map : ∀ {l : List Value} {k : IntKind} {ns : List Int}, toInts k l = some ns → l = ns.map (.int k)
  | [], k, ns, h => by simp [toInts] at h; subst h; rfl
  | x :: r, k, ns, h => by
    cases x <;> simp only [toInts] at h <;> try (cases h; done)
    rename_i k' n
    split at h
    · rename_i hk
      obtain ⟨ms, h1, rfl⟩ := Option.map_eq_some_iff.1 h
      rw [toInts_map h1, hk]
      rfl
    · cases h
theorem okCells_ints (k : IntKind) (l : List Int) : okCells (l.map (Value.int k)) = true := by
  induction l with
  | nil => rfl
  | cons x r ih => simpa [okCells] using ih
theorem Ct.cells_ints (k : IntKind) (l : List Int) : (Ct.ints k l).cells = l.map (.int k) := rfl
theorem madeCells_one (v : Value) (n : Nat) : (madeCells #[v] n).toList = List.replicate n v := by
  apply List.ext_getElem
  · simp [madeCells]
  · intro j h1 h2
    have h0 : ∀ x : Nat, x % (#[v] : Array Value).size = 0 := fun x => by simp [Nat.mod_one]
    simp only [madeCells, Array.toList_map, List.getElem_map, List.getElem_replicate, h0]
    rfl
theorem yes_makeSlice (h : RepB V β w0 N e m a w) {t : TypeId} {i : TI} (ht : TyOk P t i) {el : TypeId} (hi : i.kind = .slice el) {ei : TI} (hel : TyOk P el ei) {k : IntKind} (hk : ei.kind = .int k) {x y : Operand} {n n' : Int}
    (hx : opd ⟨e, m⟩ x = .v (.int .i64 n)) (hy : opd ⟨e, m⟩ y = .v (.int .i64 n')) (hp : n = n' ∧ 0 ≤ n ∧ n * ei.bytes ≤ 140737488355328) (hb : 1 ≤ ei.bytes) {key : Nat} (hkey : m key = none) :
    Yes P V ⟨d, .makeSlice t x y, tt, pos, after, g⟩ w0 N e (fun j => if j = key then some (.ints k (List.replicate n.toNat 0), false) else m j) a w (.ow key) := by
  obtain ⟨rfl, h0, h1⟩ := hp
  have hkd := ht.kind
  rw [hi] at hkd
  have hke := hel.kind
  rw [hk] at hke
  obtain ⟨q, hq, hq1, hq2, z, hz, hzc⟩ := hel.info
  have hz1 : z.cells = #[.int k 0] := by apply Array.ext'; rw [hzc, hke.2.2.1]
  have hn63 : n ≤ 140737488355328 := by
    have : n * 1 ≤ n * (ei.bytes : Int) := Int.mul_le_mul_of_nonneg_left (by omega) h0
    omega
  have hr := run_make (P := P) w t el q z hkd.1 hq hz .i64 .i64 n n h0 (Int.le_refl _) (by rw [hq2, Int.mul_comm]; omega) (by omega)
  rw [hq1, hke.2.2.2, Nat.mul_one, hz1] at hr
  have hcells : (madeCells #[Value.int k 0] n.toNat).toList = (Ct.ints k (List.replicate n.toNat 0)).cells := by rw [madeCells_one, Ct.cells_ints, List.map_replicate]
  have hB := h.alloc1 hkey (.ints k (List.replicate n.toNat 0)) (okCells_ints _ _) _ hcells el
  refine ⟨.slice (some ⟨w.heap.size, 0, none⟩) n.toNat n.toNat, _, _, ?_, hB, ?_⟩
  · simp [execOp, opd_v h hx, opd_v h hy, hr]
  · refine ⟨.ints k (List.replicate n.toNat 0), false, n.toNat, by simp, ⟨by simp only [maxLen]; omega, fun b hb => by have := hB.bsz (key := key) (c := .ints k (List.replicate n.toNat 0)) (fr := false) (by simp) hb; simp [Ct.len] at this; omega⟩, by simp [Ct.len], .inr ⟨w.heap.size, addβ_one _ _ _, by simp [Ct.len]⟩⟩
theorem yes_buildSliceS (h : RepB V β w0 N e m a w) {t : TypeId} {i : TI} (ht : TyOk P t i) {el : TypeId} (hi : i.kind = .slice el) {ei : TI} (hel : TyOk P el ei) {n : Nat} (hn1 : 1 ≤ n) (hs1 : 1 ≤ ei.size) (hn : n * ei.size ≤ 1000) {parts : Array (Nat × Operand)} {cs : List Value}
    (hf : fillParts (fun j => some (j * ei.size, ei.size)) ⟨e, m⟩ parts.toList (stCells n ei.size ei.zero) = some cs) (hok : okCells cs = true) {key : Nat} (hkey : m key = none) :
    Yes P V ⟨d, .buildSlice t n parts, tt, pos, after, g⟩ w0 N e (fun j => if j = key then some (.vals cs, false) else m j) a w (.ows key n) := by
  have hkd := ht.kind
  rw [hi] at hkd
  obtain ⟨z, hz, hzc⟩ := hel.run_zero w
  have hfill := fill_of h (place := fun i => some (i * ei.size, ei.size)) (fun j r hj => by simpa using hj) _ _ _ hf
  have hpos : 1 ≤ n * ei.size := Nat.mul_le_mul hn1 hs1
  have h0 : ¬ n * ei.size = 0 := by omega
  have hzs : z.cells.size = ei.size := by rw [← Array.length_toList, hzc]; exact hel.zero.2
  have hrep : (stCells n ei.size ei.zero).toArray = (Array.range (n * ei.size)).map (z.cells[· % z.cells.size]!) := by
    apply Array.ext'
    simp only [stCells, Array.toList_map, Array.toList_range]
    apply List.map_congr_left
    intro q _
    rw [hzs, ← hzc, List.getD_eq_getElem?_getD, getElem!_def, Array.getElem?_toList]
    cases z.cells[q % ei.size]? <;> rfl
  rw [hrep] at hfill
  refine ⟨.slice (some ⟨w.heap.size, 0, none⟩) n n, _, _, ?_, h.alloc1 hkey (.vals cs) hok cs.toArray (by simp [Ct.cells]) el, ?_⟩
  · have hle : ¬ (n * ei.size > 2 ^ 24) := by omega
    have hmap : (parts.map fun (i, x) => (i, a.eval x)).toList = parts.toList.map fun p => (p.1, a.eval p.2) := by simp
    simp only [execOp, Instr.buildSlice, Sem.run_bind, run_underlying hkd.1, Result.andThen_ok, hel.run_size]
    rw [if_neg hle, if_neg h0]
    simp only [Sem.run_pure, Sem.run_bind, Result.andThen_ok, hz, hmap]
    rw [hfill]
    simp [newRow]
  · refine ⟨.vals cs, false, n, w.heap.size, by simp, addβ_one _ _ _, Nat.le_refl _, ?_, rfl⟩
    have : n ≤ n * ei.size := Nat.le_mul_of_pos_right n hs1
    simp only [maxLen]; omega
theorem yes_buildSlice (h : RepB V β w0 N e m a w) {t : TypeId} {i : TI} (ht : TyOk P t i) {el : TypeId} (hi : i.kind = .slice el) {ei : TI} (hel : TyOk P el ei) {k : IntKind} (hk : ei.kind = .int k) {n : Nat} (hn : n ≤ 1000) {parts : Array (Nat × Operand)} {cs : List Value} {l : List Int}
    (hf : fillParts (fun j => some (j, 1)) ⟨e, m⟩ parts.toList (List.replicate n (.int k 0)) = some cs) (hl : toInts k cs = some l) {key : Nat} (hkey : m key = none) (hlen : cs.length = n) :
    Yes P V ⟨d, .buildSlice t n parts, tt, pos, after, g⟩ w0 N e (fun j => if j = key then some (.ints k l, false) else m j) a w (.ow key) := by
  have hkd := ht.kind
  rw [hi] at hkd
  have hke := hel.kind
  rw [hk] at hke
  obtain ⟨z, hz, hzc⟩ := hel.run_zero w
  have hz1 : z.cells = #[.int k 0] := by apply Array.ext'; rw [hzc, hke.2.2.1]
  have hfill := fill_of h (place := fun i => some (i * 1, 1)) (fun j r hj => by simpa using hj) _ _ _ hf
  have hcs := toInts_map hl
  have hrep : (List.replicate n (Value.int k 0)).toArray = (Array.range (n * 1)).map ((if n * 1 = 0 then (#[] : Array Value) else #[.int k 0])[· % (if n * 1 = 0 then (#[] : Array Value) else #[.int k 0]).size]!) := by
    apply Array.ext'
    have := madeCells_one (.int k 0) n
    simp only [madeCells] at this
    by_cases h0 : n = 0
    · subst h0; simp
    · simp only [Nat.mul_one, if_neg h0]
      exact this.symm
  rw [hrep] at hfill
  have hB := h.alloc1 hkey (.ints k l) (okCells_ints _ _) cs.toArray (by rw [Ct.cells_ints]; simpa using hcs) el
  refine ⟨.slice (some ⟨w.heap.size, 0, none⟩) n n, _, _, ?_, hB, ?_⟩
  · have hle : ¬ (n * 1 > 2 ^ 24) := by omega
    have hmap : (parts.map fun (i, x) => (i, a.eval x)).toList = parts.toList.map fun p => (p.1, a.eval p.2) := by simp
    by_cases h0 : n * 1 = 0
    · simp only [execOp, Instr.buildSlice, Sem.run_bind, run_underlying hkd.1, Result.andThen_ok, hel.run_size, hke.2.2.2]
      rw [if_neg hle, if_pos h0]
      simp only [Sem.run_pure, Sem.run_bind, Result.andThen_ok, hmap]
      rw [if_pos h0] at hfill
      rw [hfill]
      simp [newRow]
    · simp only [execOp, Instr.buildSlice, Sem.run_bind, run_underlying hkd.1, Result.andThen_ok, hel.run_size, hke.2.2.2]
      rw [if_neg hle, if_neg h0]
      simp only [Sem.run_pure, Sem.run_bind, Result.andThen_ok, hz, hz1, hmap]
      rw [if_neg h0] at hfill
      rw [hfill]
      simp [newRow]
  · have hll : l.length = n := by rw [← hlen, hcs]; simp
    refine ⟨.ints k l, false, n, by simp, ⟨by simp only [maxLen]; omega, fun b hb => by have := hB.bsz (key := key) (c := .ints k l) (fr := false) (by simp) hb; simp [Ct.len, hll] at this; omega⟩, by simp [Ct.len, hll], .inr ⟨w.heap.size, addβ_one _ _ _, by simp [Ct.len, hll]⟩⟩
theorem yes_max (h : RepB V β w0 N e m a w) {x y : Operand} {ts : Array TypeId} {k k' : IntKind} {u v : Int} (hx : opd ⟨e, m⟩ x = .v (.int k u)) (hy : opd ⟨e, m⟩ y = .v (.int k' v)) :
    Yes P V ⟨d, .call ⟨.builtin .max, #[x, y], ts⟩, tt, pos, after, g⟩ w0 N e m a w (.v (.int k (max u v))) := by
  refine .same h (v := .int k (max u v)) ?_ rfl
  have : (if v > u then v else u) = max u v := by omega
  simp [execOp, resolve, invoke, builtin, run_max_int2, opd_v h hx, opd_v h hy, this]
theorem yes_min (h : RepB V β w0 N e m a w) {x y : Operand} {ts : Array TypeId} {k k' : IntKind} {u v : Int} (hx : opd ⟨e, m⟩ x = .v (.int k u)) (hy : opd ⟨e, m⟩ y = .v (.int k' v)) :
    Yes P V ⟨d, .call ⟨.builtin .min, #[x, y], ts⟩, tt, pos, after, g⟩ w0 N e m a w (.v (.int k (min u v))) := by
  refine .same h (v := .int k (min u v)) ?_ rfl
  have : (if v < u then v else u) = min u v := by omega
  simp [execOp, resolve, invoke, builtin, run_min_int2, opd_v h hx, opd_v h hy, this]
theorem yes_len_sl (h : RepB V β w0 N e m a w) {t : TypeId} {i : TI} (ht : TyOk P t i) {el : TypeId} (hi : i.kind = .slice el) {x : Operand} {n : Nat} (hn : slLen ⟨e, m⟩ (opd ⟨e, m⟩ x) = some n) :
    Yes P V ⟨d, .call ⟨.builtin .len, #[x], #[t]⟩, tt, pos, after, g⟩ w0 N e m a w (.v (.int .i64 n)) := by
  have hkd := ht.kind
  rw [hi] at hkd
  obtain ⟨A, cap, hv, _⟩ := opd_len h hn
  refine .same h (v := .int .i64 n) ?_ rfl
  simp [execOp, resolve, invoke, builtin, Builtin.len_, run_underlying hkd.1, hv, goInt]
end Go.AM
namespace Go.AM
open Go.RowKit (Below)
variable {P : Program} {V : Nat → Prop} {β : Nat → Option Nat} {w0 w w' : World} {N : Nat} {e : Env} {m : Mem} {a : Act}
variable {ty : Ty} {Γ : Gam} {d : Option Tmp} {tt : TypeId} {pos : String} {after : Array Edge} {g : Option (Nat × Bool)}

/-! ### A store -/
theorem stAt_ok {c c' : Ct} {off : Nat} {vs : List Value} {p : Prop} (h : stAt c off vs = some (p, c')) (hp : p) (ho : okCells c.cells = true) (hv : okCells vs = true) :
    off + vs.length ≤ c.cells.length ∧ c'.len = c.len ∧ okCells c'.cells = true ∧ c'.cells = c.cells.take off ++ vs ++ c.cells.drop (off + vs.length) := by
  have hok : ∀ (l : List Value), okCells l = true → okCells (l.take off ++ vs ++ l.drop (off + vs.length)) = true := fun l hl => okCells_of fun v hm => by
    rcases List.mem_append.1 hm with hm | hm
    · rcases List.mem_append.1 hm with hm | hm
      · exact okCells_mem hl v (List.mem_of_mem_take hm)
      · exact okCells_mem hv v hm
    · exact okCells_mem hl v (List.mem_of_mem_drop hm)
  cases c with
  | vals l =>
    simp only [stAt, Option.some.injEq, Prod.mk.injEq] at h
    obtain ⟨rfl, rfl⟩ := h
    have he := setL_eq vs off l hp
    exact ⟨hp, by simp [Ct.len, length_setL], by simp only [Ct.cells, he]; exact hok l ho, he⟩
  | ints k l =>
    simp only [stAt] at h
    split at h
    · rename_i k' n
      split at h
      · rename_i hk
        subst hk
        simp only [Option.some.injEq, Prod.mk.injEq] at h
        obtain ⟨rfl, rfl⟩ := h
        have he : (l.set off n).map (Value.int k') = (l.map (Value.int k')).take off ++ [.int k' n] ++ (l.map (Value.int k')).drop (off + [Value.int k' n].length) := by
          rw [List.map_set]
          have := setL_eq [.int k' n] off (l.map (Value.int k')) (by simp; omega)
          simpa [setL] using this
        refine ⟨by simp [Ct.cells]; omega, by simp [Ct.len], okCells_ints _ _, he⟩
      · cases h
    · cases h
theorem store_ok (h : RepB V β w0 N e m a w) (hty : TysOk P ty) {t : TypeId} {x y : Operand} {key : Nat} {p : Prop} {c' : Ct} (hs : aStore ty ⟨e, m⟩ t x y = some (key, p, c')) (hp : p) :
    ∃ w', (execOp a.eval ⟨d, .store t x y, tt, pos, after, g⟩).run P w = .ok .skip w' ∧ RepB V β w0 N e (fun k => if k = key then some (c', false) else m k) a w' := by
  unfold aStore at hs
  split at hs
  · rename_i key' off v hx hy
    split at hs
    · rename_i c hk
      split at hs
      · rename_i hc
        obtain ⟨⟨p', c''⟩, h1, h2⟩ := Option.map_eq_some_iff.1 hs
        simp only [Prod.mk.injEq] at h2
        obtain ⟨rfl, rfl, rfl⟩ := h2
        obtain ⟨c1, fr, b, hk1, hb, hv⟩ := opd_ref h hx
        have hk' : m key' = some (c, false) := hk
        rw [hk'] at hk1; cases hk1
        have hyv : a.eval y = v := opd_v h (by unfold valOf at hy; split at hy <;> simp_all)
        obtain ⟨ho, hbad | ⟨b', arr, T, rest, hb', hB, hh, harr⟩⟩ := h.mem key' c false hk'
        · rw [hb] at hbad; exact absurd hbad.1 (by simp)
        · rw [hb] at hb'; cases hb'
          obtain ⟨hfit, hlen, hok, hcs⟩ := stAt_ok h1 hp ho hc.1
          have hsz : arr.size = c.cells.length + rest.length := by rw [← Array.length_toList, harr, List.length_append]
          have hst := run_storeCells_at P b off T (vcells v) 0 arr w hh (by omega) (fun u hu => okCells_mem hc.1 u hu)
          refine ⟨w.setRow b (arr.toList.take (off + 0) ++ vcells v ++ arr.toList.drop (off + 0 + (vcells v).length)).toArray, ?_, h.store hk' hb hB hh hlen hok (rest := rest) ?_ (by simp; omega)⟩
          · obtain ⟨i, hi, hi2⟩ := Option.map_eq_some_iff.1 hc.2
            have hsize : v.cells.size = i.size := by rw [hi2, ← vcells_cells, Array.length_toList]
            simp [execOp, Instr.storeAt, hv, Instr.sureAddr, hyv, storeVar, (hty t i hi).run_size, hsize, vcells_cells]
            rw [hst]
            simp
          · simp only [Nat.add_zero, harr, hcs]
            rw [List.take_append_of_le_length (by omega), List.drop_append_of_le_length (by omega)]
            simp
      · cases hs
    · cases hs
  · cases hs

/-! ### Calls -/
def RepD (w : World) : DV → Value → Prop
  | .v x, v => v = x
  | .sl k l, v => ∃ A cap, v = .slice A l.length cap ∧ l.length ≤ cap ∧ cap ≤ maxLen ∧ (l ≠ [] → ∃ ad : Addr, A = some ad ∧ ∀ i, i < l.length → w.cell? (ad.add i) = some (.int k (l.getD i 0)))
def RepDs (w : World) : List DV → List Value → Prop
  | [], [] => True
  | d :: ds, v :: vs => RepD w d v ∧ RepDs w ds vs
  | _, _ => False
/-- The block of a slice that is not empty. -/
def liveBlock : Value → Option Nat
  | .slice (some ad) n _ => if 0 < n then some ad.block else none
  | _ => none
def RepR (w w' : World) (vs : List Value) : RV → Value → Prop
  | .v x, v => v = x
  | .fresh k l, v => (v = .slice none 0 0 ∧ l = []) ∨ ∃ b cap arr T rest, v = .slice (some ⟨b, 0, none⟩) l.length cap ∧ l.length ≤ cap ∧ (cap ≤ maxLen ∧ cap ≤ arr.size) ∧ w.heap.size ≤ b ∧ w'.heap[b]? = some (.cells arr T (0, 0)) ∧ arr.toList = l.map (.int k) ++ rest
  | .cells n l, v => ∃ b cap arr T rest, v = .slice (some ⟨b, 0, none⟩) n cap ∧ n ≤ cap ∧ cap ≤ maxLen ∧ w.heap.size ≤ b ∧ w'.heap[b]? = some (.cells arr T (0, 0)) ∧ arr.toList = l ++ rest ∧ okCells l = true
  | .view k l, v => RepD w' (.sl k l) v ∧ (∀ b, liveBlock v = some b → w.heap.size ≤ b ∨ ∃ u ∈ vs, liveBlock u = some b)
def RepRs (w w' : World) (vs : List Value) : List RV → List Value → Prop
  | [], [] => True
  | r :: rs, u :: us => RepR w w' vs r u ∧ RepRs w w' vs rs us
  | _, _ => False
def ownB : Value → Option Nat
  | .slice (some ad) _ _ => some ad.block
  | _ => none
def freshBs : List RV → List Value → List Nat
  | .fresh _ _ :: rs, u :: us => (ownB u).toList ++ freshBs rs us
  | .cells _ _ :: rs, u :: us => (ownB u).toList ++ freshBs rs us
  | _ :: rs, _ :: us => freshBs rs us
  | _, _ => []
def RepRes (w w' : World) (vs : List Value) : Res → Value → Prop
  | .one r, v => RepR w w' vs r v
  | .many rs, v => ∃ us : List Value, v = .tuple us.toArray ∧ RepRs w w' vs rs us ∧ (freshBs rs us).Nodup
def plainRes : Res → Prop
  | .one (.v _) => True
  | .many rs => ∀ r ∈ rs, ∃ x, r = .v x
  | _ => False
/-- A function does as its contract says. -/
def Sound (P : Program) (f : Nat) : Fk → CSpec → Prop
  | .body, spec => ∃ fn, P.funcs[f]? = some fn ∧ (fn.name == "runtime.NumGoroutine") = false ∧ fn.body.isNone = false ∧
      ∀ ds p r, spec ds = some (p, r) → p → ∀ w vs, RepDs w ds vs → Calls P f vs.toArray w (fun e w' => ∃ v, e = .returned v ∧ Below w.heap.size w w' ∧ RepRes w w' vs r v)
  | .ext, spec => ∀ ds p r, spec ds = some (p, r) → p → ∀ w vs, RepDs w ds vs → ∃ v, (callFunc f vs.toArray).run P w = .ok (.value v) w ∧ RepRes w w vs r v ∧ plainRes r
def GamOk (P : Program) (Γ : Gam) : Prop := ∀ f fk spec, lk Γ f = some (fk, spec) → Sound P f fk spec

theorem intsOf_cells {c : Ct} {k : IntKind} {l : List Int} (h : c.intsOf k = some l) : c.cells = l.map (.int k) := by
  cases c with
  | ints k' l' => simp only [Ct.intsOf] at h; split at h <;> simp_all [Ct.cells]
  | vals vs => exact toInts_map h
theorem dvOf_ok (h : RepB V β w0 N e m a w) {av : AV} {v : Value} {dv : DV} (hv : RepA V β m w av v) (hd : dvOf ⟨e, m⟩ av = some dv) : RepD w dv v := by
  cases av with
  | v x => simp only [dvOf] at hd; split at hd <;> cases hd; exact hv
  | pt x => cases hd
  | rd k l =>
    cases hd
    obtain ⟨A, cap, h1, h2, h3, h4⟩ := hv
    exact ⟨A, cap, h1, h2, h3, fun hl => by obtain ⟨ad, e1, _, hc⟩ := h4 hl; exact ⟨ad, e1, hc⟩⟩
  | ref key off => cases hd
  | ows key n => cases hd
  | ow key =>
    obtain ⟨c, fr, cap, hk, h2, h3, h4⟩ := hv
    simp only [dvOf, hk, Option.bind_some] at hd
    cases c with
    | vals l => cases hd
    | ints k l =>
      cases hd
      rcases h4 with ⟨_, h0, rfl⟩ | ⟨b, hb, rfl⟩
      · have : l = [] := by simpa [Ct.len] using h0
        subst this
        exact ⟨none, 0, rfl, by simp, by simp, fun h => absurd rfl h⟩
      · exact ⟨_, cap, rfl, h3, h2.1, fun _ => ⟨_, rfl, fun i hi => by rw [Addr.add_plain]; exact h.cell hk hb (by simp [Ct.cells, hi])⟩⟩
  | al key lo n =>
    obtain ⟨⟨c, fr, hk, hle⟩, A, cap, rfl, h2, h3, h4⟩ := hv
    have fin : ∀ (k : IntKind) (l : List Int), c.cells = l.map (Value.int k) → dv = .sl k ((l.drop lo).take n) → RepD w dv (.slice A n cap) := by
      intro k l hcells hdv
      subst hdv
      have hlen : c.len = l.length := by rw [← Ct.length_cells, hcells]; simp
      have hl : ((l.drop lo).take n).length = n := by simp; omega
      refine ⟨A, cap, by rw [hl], by rw [hl]; exact h2, h3.1, fun hne => ?_⟩
      have hn : 0 < n := by rw [← hl]; exact List.length_pos_iff.2 hne
      rcases h4 (.inl hn) with ⟨_, _, h0, _⟩ | ⟨b, hb, rfl⟩
      · omega
      · refine ⟨_, rfl, fun i hi => ?_⟩
        rw [hl] at hi
        rw [Addr.add_plain]
        refine h.cell hk hb ?_
        rw [hcells]
        simp only [List.getElem?_map, List.getD_eq_getElem?_getD, List.getElem?_take, List.getElem?_drop, if_pos hi]
        rw [List.getElem?_eq_getElem (show lo + i < l.length by omega)]
        simp
    simp only [dvOf, hk, Option.bind_some] at hd
    cases c with
    | ints k l => cases hd; exact fin k l rfl rfl
    | vals l =>
      obtain ⟨ns, h5, h6⟩ := Option.map_eq_some_iff.1 hd
      exact fin .u64 ns (toInts_map h5) h6.symm
  | tup l => cases hd
  | dead => cases hd
theorem dvs_ok (h : RepB V β w0 N e m a w) : ∀ {xs : List Operand} {ds : List DV}, dvs ⟨e, m⟩ xs = some ds → RepDs w ds (xs.map a.eval)
  | [], ds, hd => by simp only [dvs, Option.some.injEq] at hd; subst hd; trivial
  | x :: r, ds, hd => by
    simp only [dvs] at hd
    split at hd
    · rename_i dd ds' h1 h2
      cases hd
      exact ⟨dvOf_ok h (h.opd x) h1, dvs_ok h h2⟩
    · cases hd
end Go.AM
namespace Go.AM
open Go.RowKit (Below)
variable {P : Program} {V : Nat → Prop} {β : Nat → Option Nat} {w0 w w' : World} {N : Nat} {e : Env} {m : Mem} {a : Act}
variable {ty : Ty} {Γ : Gam} {d : Option Tmp} {tt : TypeId} {pos : String} {after : Array Edge} {g : Option (Nat × Bool)}

theorem lk_mem {α : Type} : ∀ {l : List (Nat × α)} {k : Nat} {x : α}, lk l k = some x → (k, x) ∈ l
  | [], _, _, h => by cases h
  | (j, y) :: r, k, x, h => by
    simp only [lk] at h
    split at h
    · rename_i hk; cases h; subst hk; simp
    · exact List.mem_cons_of_mem _ (lk_mem h)
theorem lk_of_mem {α : Type} : ∀ {l : List (Nat × α)} {k : Nat} {x : α}, (l.map (·.1)).Nodup → (k, x) ∈ l → lk l k = some x
  | (j, y) :: r, k, x, hn, h => by
    simp only [List.map_cons, List.nodup_cons] at hn
    simp only [lk]
    rcases List.mem_cons.1 h with h1 | h1
    · cases h1; simp
    · have : k ≠ j := fun hkj => hn.1 (hkj ▸ List.mem_map.2 ⟨(k, x), h1, rfl⟩)
      rw [if_neg this]
      exact lk_of_mem hn.2 h1
theorem lk_append {α : Type} : ∀ (l l' : List (Nat × α)) (k : Nat), lk (l ++ l') k = match lk l k with | some x => some x | none => lk l' k
  | [], _, _ => rfl
  | (j, y) :: r, l', k => by
    simp only [List.cons_append, lk]
    split
    · rfl
    · exact lk_append r l' k
def addsOf (key : Nat) : Nat → List RV → List Value → List (Nat × Ct × Option Nat)
  | i, .fresh k l :: rs, u :: us => (key + i, .ints k l, ownB u) :: addsOf key (i + 1) rs us
  | i, .cells n l :: rs, u :: us => (key + i, .vals l, ownB u) :: addsOf key (i + 1) rs us
  | i, _ :: rs, _ :: us => addsOf key (i + 1) rs us
  | _, _, _ => []
theorem addsOf_ge (key : Nat) : ∀ (rs : List RV) (us : List Value) (i : Nat), ∀ p ∈ addsOf key i rs us, key + i ≤ p.1
  | [], us, i, p, h => by cases us <;> simp [addsOf] at h
  | r :: rs, [], i, p, h => by cases r <;> simp [addsOf] at h
  | r :: rs, u :: us, i, p, h => by
    have ih := addsOf_ge key rs us (i + 1) p
    cases r <;> simp only [addsOf, List.mem_cons] at h
    · have := ih h; omega
    · rcases h with rfl | h
      · exact Nat.le_refl _
      · have := ih h; omega
    · have := ih h; omega
    · rcases h with rfl | h
      · exact Nat.le_refl _
      · have := ih h; omega
theorem addsOf_nodup (key : Nat) : ∀ (rs : List RV) (us : List Value) (i : Nat), ((addsOf key i rs us).map (·.1)).Nodup
  | [], us, i => by cases us <;> simp [addsOf]
  | r :: rs, [], i => by cases r <;> simp [addsOf]
  | r :: rs, u :: us, i => by
    have ih := addsOf_nodup key rs us (i + 1)
    cases r <;> simp only [addsOf]
    · exact ih
    · simp only [List.map_cons, List.nodup_cons]
      refine ⟨fun hm => ?_, ih⟩
      obtain ⟨p, hp, he⟩ := List.mem_map.1 hm
      have := addsOf_ge key rs us (i + 1) p hp
      omega
    · exact ih
    · simp only [List.map_cons, List.nodup_cons]
      refine ⟨fun hm => ?_, ih⟩
      obtain ⟨p, hp, he⟩ := List.mem_map.1 hm
      have := addsOf_ge key rs us (i + 1) p hp
      omega
theorem addsOf_mems (key : Nat) (vs : List Value) : ∀ (rs : List RV) (us : List Value) (i : Nat), RepRs w w' vs rs us → outMems key i rs = (addsOf key i rs us).map fun p => (p.1, p.2.1, false)
  | [], us, i, _ => by cases us <;> simp [addsOf, outMems]
  | r :: rs, [], i, h => h.elim
  | r :: rs, u :: us, i, h => by
    have ih := addsOf_mems key vs rs us (i + 1) h.2
    cases r <;> simp [addsOf, outMems, outMem, ih]
theorem addsOf_ok (key : Nat) (vs : List Value) : ∀ (rs : List RV) (us : List Value) (i : Nat), RepRs w w' vs rs us → ∀ p ∈ addsOf key i rs us, okCells p.2.1.cells = true ∧ ((p.2.2 = none ∧ p.2.1.len = 0) ∨
    ∃ b arr T rest, p.2.2 = some b ∧ w.heap.size ≤ b ∧ w'.heap[b]? = some (.cells arr T (0, 0)) ∧ arr.toList = p.2.1.cells ++ rest)
  | [], us, i, _, p, h => by cases us <;> simp [addsOf] at h
  | r :: rs, [], i, h, _, _ => h.elim
  | r :: rs, u :: us, i, h, p, hp => by
    have ih := addsOf_ok key vs rs us (i + 1) h.2 p
    cases r <;> simp only [addsOf, List.mem_cons] at hp
    · exact ih hp
    · rename_i k l
      rcases hp with rfl | hp
      · refine ⟨okCells_ints k l, ?_⟩
        rcases h.1 with ⟨rfl, rfl⟩ | ⟨b, cap, arr, T, rest, rfl, _, _, h1, h2, h3⟩
        · exact .inl ⟨rfl, rfl⟩
        · exact .inr ⟨b, arr, T, rest, rfl, h1, h2, h3⟩
      · exact ih hp
    · exact ih hp
    · rename_i n l
      rcases hp with rfl | hp
      · obtain ⟨b, cap, arr, T, rest, rfl, _, _, h1, h2, h3, h4⟩ := h.1
        exact ⟨h4, .inr ⟨b, arr, T, rest, rfl, h1, h2, h3⟩⟩
      · exact ih hp
theorem addsOf_blocks (key : Nat) : ∀ (rs : List RV) (us : List Value) (i : Nat), (addsOf key i rs us).filterMap (·.2.2) = freshBs rs us
  | [], us, i => by cases us <;> simp [addsOf, freshBs]
  | r :: rs, [], i => by cases r <;> simp [addsOf, freshBs]
  | r :: rs, u :: us, i => by
    have ih := addsOf_blocks key rs us (i + 1)
    cases r <;> simp only [addsOf, freshBs]
    · exact ih
    · cases hu : ownB u <;> simp [List.filterMap_cons, hu, ih]
    · exact ih
    · cases hu : ownB u <;> simp [List.filterMap_cons, hu, ih]
theorem filterMap_inj {α : Type} {f : α → Option Nat} : ∀ {l : List α}, (l.filterMap f).Nodup → ∀ {x y : α} {b : Nat}, x ∈ l → y ∈ l → f x = some b → f y = some b → x = y
  | z :: r, hn, x, y, b, hx, hy, fx, fy => by
    have hr : ∀ u, u ∈ r → f u = some b → b ∈ r.filterMap f := fun u hu fu => List.mem_filterMap.2 ⟨u, hu, fu⟩
    rw [List.filterMap_cons] at hn
    rcases List.mem_cons.1 hx with e1 | hx1
    · rcases List.mem_cons.1 hy with e2 | hy1
      · rw [e1, e2]
      · rw [← e1, fx] at hn
        exact absurd (hr y hy1 fy) (List.nodup_cons.1 hn).1
    · rcases List.mem_cons.1 hy with e2 | hy1
      · rw [← e2, fy] at hn
        exact absurd (hr x hx1 fx) (List.nodup_cons.1 hn).1
      · refine filterMap_inj (l := r) ?_ hx1 hy1 fx fy
        cases hz : f z with
        | none => rw [hz] at hn; exact hn
        | some c => rw [hz] at hn; exact (List.nodup_cons.1 hn).2
theorem freshM_mem {m : Mem} {d : Nat} : ∀ {l : List (Nat × Ct × Bool)}, freshM m d l → ∀ k c, (k, c, false) ∈ l → m k = none
  | (j, c', fr) :: r, h, k, c, hm => by
    simp only [freshM] at h
    rcases List.mem_cons.1 hm with h1 | h1
    · cases h1
      rcases h.1 with h2 | h2
      · cases h2
      · exact h2.2.2
    · exact freshM_mem h.2 k c h1
theorem freezes_spec (s : St) : ∀ (xs : List Operand) (k : Nat) (c : Ct) (fr : Bool), (k, c, fr) ∈ freezes s xs → fr = true ∧ ∃ fr', s.m k = some (c, fr')
  | [], k, c, fr, h => by cases h
  | x :: r, k, c, fr, h => by
    simp only [freezes] at h
    split at h
    · rename_i en hen
      rcases List.mem_cons.1 h with h1 | h1
      · cases h1
        cases hk : keyOf (opd s x) with
        | none => simp [hk] at hen
        | some k' =>
          simp only [hk, Option.bind_some] at hen
          obtain ⟨⟨c', fr'⟩, h2, h3⟩ := Option.map_eq_some_iff.1 hen
          simp only [Prod.mk.injEq] at h3
          obtain ⟨rfl, rfl, rfl⟩ := h3
          exact ⟨rfl, fr', h2⟩
      · exact freezes_spec s r k c fr h1
    · exact freezes_spec s r k c fr h
theorem freezes_has (s : St) : ∀ (xs : List Operand) (x : Operand) (k : Nat) (c : Ct) (fr : Bool), x ∈ xs → keyOf (opd s x) = some k → s.m k = some (c, fr) → ∃ c', lk (freezes s xs) k = some (c', true)
  | y :: r, x, k, c, fr, hx, hk, hc => by
    simp only [freezes]
    have key : (k, c, true) ∈ freezes s (y :: r) → ∃ c', lk (freezes s (y :: r)) k = some (c', true) := fun hm => by
      cases hl : lk (freezes s (y :: r)) k with
      | none =>
        exfalso
        have : ∀ (l : List (Nat × Ct × Bool)), (k, c, true) ∈ l → lk l k ≠ none := fun l => by
          induction l with
          | nil => intro h; cases h
          | cons z l ih =>
            obtain ⟨j, y⟩ := z
            intro h
            simp only [lk]
            split
            · simp
            · rename_i hne
              rcases List.mem_cons.1 h with h1 | h1
              · cases h1; exact absurd rfl hne
              · exact ih h1
        exact this _ hm hl
      | some p =>
        obtain ⟨c', fr'⟩ := p
        have := (freezes_spec s _ k c' fr' (lk_mem hl)).1
        subst this
        exact ⟨c', rfl⟩
    refine key ?_
    have mem : ∀ (xs : List Operand), x ∈ xs → (k, c, true) ∈ freezes s xs := fun xs => by
      induction xs with
      | nil => intro h; cases h
      | cons z xs ih =>
        intro h
        simp only [freezes]
        rcases List.mem_cons.1 h with rfl | h1
        · simp [hk, hc]
        · split
          · exact List.mem_cons_of_mem _ (ih h1)
          · exact ih h1
    exact mem _ hx
end Go.AM
namespace Go.AM
open Go.RowKit (Below)
variable {P : Program} {V : Nat → Prop} {β : Nat → Option Nat} {w0 w w' : World} {N : Nat} {e : Env} {m : Mem} {a : Act}
variable {ty : Ty} {Γ : Gam} {d : Option Tmp} {tt : TypeId} {pos : String} {after : Array Edge} {g : Option (Nat × Bool)}

theorem RepB.lt (h : RepB V β w0 N e m a w) {key b : Nat} (hs : (m key).isSome = true) (hb : β key = some b) : b < w.heap.size := by
  obtain ⟨⟨c, fr⟩, hc⟩ := Option.isSome_iff_exists.1 hs
  obtain ⟨_, h1 | ⟨b', arr, T, rest, h1, _, h3, _⟩⟩ := h.mem key c fr hc
  · rw [hb] at h1; exact absurd h1.1 (by simp)
  · rw [hb] at h1; cases h1; exact (Array.getElem?_eq_some_iff.1 h3).1

/-- The blocks behind the arguments are no unfrozen ones any more, once the arguments are frozen. -/
theorem args_apart (h : RepB V β w0 N e m a w) {args : List Operand} : ∀ {xs : List Operand} {ds : List DV}, dvs ⟨e, m⟩ xs = some ds → (∀ x ∈ xs, x ∈ args) → ∀ u ∈ xs.map a.eval, ∀ b, liveBlock u = some b →
    ∀ key c, m key = some (c, false) → lk (freezes ⟨e, m⟩ args) key = none → β key ≠ some b
  | [], _, _, _, u, hu, _, _, _, _, _, _ => by cases hu
  | x :: r, ds, hd, hsub, u, hu, b, hb, key, c, hk, hf => by
    simp only [dvs] at hd
    split at hd
    · rename_i dd ds' h1 h2
      rcases List.mem_cons.1 hu with rfl | hu
      · intro hβ
        have hrep := h.opd x
        have hx := hsub x (by simp)
        cases hop : opd ⟨e, m⟩ x with
        | v val =>
          rw [hop] at hrep h1
          have hv : a.eval x = val := hrep
          simp only [dvOf] at h1
          split at h1
          · rename_i hpl
            rw [hv] at hb
            unfold liveBlock at hb
            split at hb
            · simp [plainV] at hpl
            · cases hb
          · cases h1
        | rd k l =>
          rw [hop] at hrep
          obtain ⟨A, cap, hv, _, _, h4⟩ := hrep
          rw [hv] at hb
          have hl : l ≠ [] := by
            intro h0; subst h0
            unfold liveBlock at hb
            split at hb
            · rename_i hh; cases hh; simp at hb
            · cases hb
          obtain ⟨ad, rfl, hap, _⟩ := h4 hl
          have : ad.block = b := by
            simp only [liveBlock, if_pos (List.length_pos_iff.2 hl)] at hb
            simpa using hb
          exact hap.2 key c hk (this ▸ hβ)
        | ow key' =>
          rw [hop] at hrep
          obtain ⟨c', fr, cap, hk', _, _, h4⟩ := hrep
          obtain ⟨c'', hfz⟩ := freezes_has ⟨e, m⟩ args x key' c' fr hx (by rw [hop]; rfl) hk'
          rcases h4 with ⟨_, _, hv⟩ | ⟨b', hb', hv⟩
          · rw [hv] at hb; cases hb
          · rw [hv] at hb
            have : b' = b := by
              simp only [liveBlock] at hb
              split at hb
              · simpa using hb
              · cases hb
            subst this
            have := h.inj key key' b' (by simp [hk]) (by simp [hk']) hβ hb'
            subst this
            rw [hf] at hfz; cases hfz
        | al key' lo n =>
          rw [hop] at hrep
          obtain ⟨⟨c', fr, hk', _⟩, A, cap, hv, _, _, h4⟩ := hrep
          obtain ⟨c'', hfz⟩ := freezes_has ⟨e, m⟩ args x key' c' fr hx (by rw [hop]; rfl) hk'
          rw [hv] at hb
          have hn : 0 < n := by
            unfold liveBlock at hb
            split at hb
            · rename_i hh; cases hh
              split at hb
              · assumption
              · cases hb
            · cases hb
          rcases h4 (.inl hn) with ⟨_, _, h0, _⟩ | ⟨b', hb', rfl⟩
          · omega
          · have : b' = b := by simpa [liveBlock, hn] using hb
            subst this
            have := h.inj key key' b' (by simp [hk]) (by simp [hk']) hβ hb'
            subst this
            rw [hf] at hfz; cases hfz
        | pt x => rw [hop] at h1; cases h1
        | ref k o => rw [hop] at h1; cases h1
        | ows k n => rw [hop] at h1; cases h1
        | tup l => rw [hop] at h1; cases h1
        | dead => rw [hop] at h1; cases h1
      · exact args_apart h h2 (fun y hy => hsub y (by simp [hy])) u hu b hb key c hk hf
    · cases hd

theorem args_from (h : RepB V β w0 N e m a w) : ∀ {xs : List Operand} {ds : List DV}, dvs ⟨e, m⟩ xs = some ds → ∀ u ∈ xs.map a.eval, ∀ b, liveBlock u = some b → V b
  | [], _, _, u, hu, _, _ => by cases hu
  | x :: r, ds, hd, u, hu, b, hb => by
    simp only [dvs] at hd
    split at hd
    · rename_i dd ds' h1 h2
      rcases List.mem_cons.1 hu with rfl | hu
      · have hrep := h.opd x
        have own : ∀ key, (m key).isSome = true → ∀ b', β key = some b' → w0.heap.size ≤ b' := fun key hs b' hb' => by
          obtain ⟨⟨c, fr⟩, hc⟩ := Option.isSome_iff_exists.1 hs
          obtain ⟨_, h1 | ⟨b'', arr, T, rest, h1, h2, _⟩⟩ := h.mem key c fr hc
          · rw [hb'] at h1; exact absurd h1.1 (by simp)
          · rw [hb'] at h1; cases h1; exact h2
        cases hop : opd ⟨e, m⟩ x with
        | v val =>
          rw [hop] at hrep h1
          have hv : a.eval x = val := hrep
          simp only [dvOf] at h1
          split at h1
          · rename_i hpl
            rw [hv] at hb
            unfold liveBlock at hb
            split at hb
            · simp [plainV] at hpl
            · cases hb
          · cases h1
        | rd k l =>
          rw [hop] at hrep
          obtain ⟨A, cap, hv, _, _, h4⟩ := hrep
          rw [hv] at hb
          have hl : l ≠ [] := by
            intro h0; subst h0
            unfold liveBlock at hb
            split at hb
            · rename_i hh; cases hh; simp at hb
            · cases hb
          obtain ⟨ad, rfl, hap, _⟩ := h4 hl
          have : ad.block = b := by
            simp only [liveBlock, if_pos (List.length_pos_iff.2 hl)] at hb
            simpa using hb
          exact this ▸ hap.1
        | ow key' =>
          rw [hop] at hrep
          obtain ⟨c', fr, cap, hk', _, _, h4⟩ := hrep
          rcases h4 with ⟨_, _, hv⟩ | ⟨b', hb', hv⟩
          · rw [hv] at hb; cases hb
          · rw [hv] at hb
            have : b' = b := by
              simp only [liveBlock] at hb
              split at hb
              · simpa using hb
              · cases hb
            subst this
            exact h.fresh _ (own key' (by simp [hk']) b' hb')
        | al key' lo n =>
          rw [hop] at hrep
          obtain ⟨⟨c', fr, hk', _⟩, A, cap, hv, _, _, h4⟩ := hrep
          rw [hv] at hb
          have hn : 0 < n := by
            unfold liveBlock at hb
            split at hb
            · rename_i hh; cases hh
              split at hb
              · assumption
              · cases hb
            · cases hb
          rcases h4 (.inl hn) with ⟨_, _, h0, _⟩ | ⟨b', hb', rfl⟩
          · omega
          · have : b' = b := by simpa [liveBlock, hn] using hb
            subst this
            exact h.fresh _ (own key' (by simp [hk']) b' hb')
        | pt x => rw [hop] at h1; cases h1
        | ref k o => rw [hop] at h1; cases h1
        | ows k n => rw [hop] at h1; cases h1
        | tup l => rw [hop] at h1; cases h1
        | dead => rw [hop] at h1; cases h1
      · exact args_from h h2 u hu b hb
    · cases hd
theorem noFresh_adds (key : Nat) : ∀ (rs : List RV) (us : List Value) (i : Nat), rs.any RV.isFresh = false → addsOf key i rs us = []
  | [], us, i, _ => by cases us <;> simp [addsOf]
  | r :: rs, [], i, _ => by cases r <;> simp [addsOf]
  | r :: rs, u :: us, i, h => by
    simp only [List.any_cons, Bool.or_eq_false_iff] at h
    have ih := noFresh_adds key rs us (i + 1) h.2
    cases r <;> simp_all [addsOf, RV.isFresh]

theorem addsOf_tail (key : Nat) (r : RV) (rs : List RV) (u : Value) (us : List Value) (i : Nat) (p : Nat × Ct × Option Nat) (h : p ∈ addsOf key (i + 1) rs us) : p ∈ addsOf key i (r :: rs) (u :: us) := by
  cases r with
  | v x => exact h
  | fresh k l => exact List.mem_cons_of_mem _ h
  | view k l => exact h
  | cells n l => exact List.mem_cons_of_mem _ h
set_option maxHeartbeats 1000000 in
theorem bind_results {mem : List (Nat × Ct × Bool)} {args : List Operand} {ds : List DV} (h : RepB V β w0 N e (lk mem) a w) (hd : dvs ⟨e, lk mem⟩ args = some ds) (hx : Ext w w') {rs : List RV} {us : List Value} (hr : RepRs w w' (args.map a.eval) rs us)
    (hnd : (freshBs rs us).Nodup) (hvf : ¬ (rs.any RV.isView = true ∧ rs.any RV.isFresh = true)) {key dd : Nat} {fz : List (Nat × Ct × Bool)} (hfz : fz = if rs.any RV.isView then freezes ⟨e, lk mem⟩ args else []) (hfr : freshM (lk mem) dd (outMems key 0 rs ++ fz)) :
    ∃ β', RepB V β' w0 N e (lk ((outMems key 0 rs ++ fz) ++ mem)) a w' ∧ RepL V β' (lk ((outMems key 0 rs ++ fz) ++ mem)) w' (outAVs key 0 rs) us := by
  have hmems := addsOf_mems (w := w) (w' := w') key (args.map a.eval) rs us 0 hr
  have hok := addsOf_ok (w := w) (w' := w') key (args.map a.eval) rs us 0 hr
  have hkn := addsOf_nodup key rs us 0
  have hbl := addsOf_blocks key rs us 0
  have hfresh : ∀ k x, lk (addsOf key 0 rs us) k = some x → lk mem k = none := fun k x hl => by
    refine freshM_mem hfr k x.1 (List.mem_append_left _ ?_)
    rw [hmems]
    exact List.mem_map.2 ⟨(k, x), lk_mem hl, rfl⟩
  have h1 := h.adds hx (addsOf key 0 rs us) hfresh (fun k c bo hl => hok _ (lk_mem hl)) (fun k k' c c' b hl hl' => by
    have := filterMap_inj (f := fun p : Nat × Ct × Option Nat => p.2.2) (l := addsOf key 0 rs us) (by rw [hbl]; exact hnd) (lk_mem hl) (lk_mem hl') rfl rfl
    exact congrArg Prod.fst this)
  have hlkm : ∀ k, lk (outMems key 0 rs) k = (lk (addsOf key 0 rs us) k).map fun x => (x.1, false) := fun k => by
    rw [hmems]
    generalize addsOf key 0 rs us = l
    induction l with
    | nil => rfl
    | cons p l ih =>
      obtain ⟨j, c, bo⟩ := p
      simp only [List.map_cons, lk]
      split
      · rfl
      · exact ih
  have hfzs : ∀ k c fr, lk fz k = some (c, fr) → fr = true ∧ ∃ fr', lk mem k = some (c, fr') := fun k c fr hl => by
    rw [hfz] at hl
    split at hl
    · exact freezes_spec _ _ k c fr (lk_mem hl)
    · cases hl
  have hm2 : ∀ k, lk ((outMems key 0 rs ++ fz) ++ mem) k = addm (addsOf key 0 rs us) (lk mem) k ∨ ∃ c fr, addm (addsOf key 0 rs us) (lk mem) k = some (c, fr) ∧ lk ((outMems key 0 rs ++ fz) ++ mem) k = some (c, true) := fun k => by
    rw [lk_append, lk_append, hlkm k]
    unfold addm
    cases hl : lk (addsOf key 0 rs us) k with
    | some x => exact .inl rfl
    | none =>
      simp only [Option.map_none]
      cases hl2 : lk fz k with
      | none => exact .inl rfl
      | some y =>
        obtain ⟨c, fr⟩ := y
        obtain ⟨rfl, fr', h3⟩ := hfzs k c fr hl2
        exact .inr ⟨c, fr', h3, rfl⟩
  have h2 := h1.freeze hm2
  refine ⟨_, h2, ?_⟩
  -- the results
  have hres : ∀ (rs' : List RV) (us' : List Value) (i : Nat), RepRs w w' (args.map a.eval) rs' us' → (∀ p ∈ addsOf key i rs' us', p ∈ addsOf key 0 rs us) → (rs'.any RV.isView = true → rs.any RV.isView = true) →
      RepL V (addβ (addsOf key 0 rs us) β) (lk ((outMems key 0 rs ++ fz) ++ mem)) w' (outAVs key i rs') us' := by
    intro rs'
    induction rs' with
    | nil => intro us' i hr' _ _; cases us' <;> first | trivial | exact hr'.elim
    | cons r rs' ih =>
      intro us' i hr' hsub hv
      cases us' with
      | nil => exact hr'.elim
      | cons u us' =>
        refine ⟨?_, ih us' (i + 1) hr'.2 (fun p hp => hsub p (addsOf_tail key r rs' u us' i p hp)) (fun hh => hv (by rw [List.any_cons, hh, Bool.or_true]))⟩
        cases r with
        | v x => exact hr'.1
        | fresh k l =>
          have hin := hsub (key + i, .ints k l, ownB u) (List.mem_cons_self ..)
          have hl1 := lk_of_mem hkn hin
          have hl2 : lk ((outMems key 0 rs ++ fz) ++ mem) (key + i) = some (.ints k l, false) := by
            rw [lk_append, lk_append, hlkm, hl1]; rfl
          have hb : addβ (addsOf key 0 rs us) β (key + i) = ownB u := by simp [addβ, hl1]
          rcases hr'.1 with ⟨rfl, rfl⟩ | ⟨b, cap, arr, T, rest, rfl, hc1, hc2, _, hh, _⟩
          · exact ⟨.ints k [], false, 0, hl2, ⟨by simp, fun b hb' => Nat.zero_le _⟩, by simp [Ct.len], .inl ⟨hb, rfl, rfl⟩⟩
          · exact ⟨.ints k l, false, cap, hl2, ⟨hc2.1, fun b' hb' => by rw [hb] at hb'; cases hb'; unfold bsz; rw [hh]; simp only; omega⟩, hc1, .inr ⟨b, hb, rfl⟩⟩
        | cells n l =>
          have hin := hsub (key + i, .vals l, ownB u) (List.mem_cons_self ..)
          have hl1 := lk_of_mem hkn hin
          have hl2 : lk ((outMems key 0 rs ++ fz) ++ mem) (key + i) = some (.vals l, false) := by
            rw [lk_append, lk_append, hlkm, hl1]; rfl
          have hb : addβ (addsOf key 0 rs us) β (key + i) = ownB u := by simp [addβ, hl1]
          obtain ⟨b, cap, arr, T, rest, rfl, hc1, hc2, _⟩ := hr'.1
          exact ⟨.vals l, false, cap, b, hl2, hb, hc1, hc2, rfl⟩
        | view k l =>
          have hview := hv rfl
          have hnf : rs.any RV.isFresh = false := by
            cases hq : rs.any RV.isFresh with
            | false => rfl
            | true => exact absurd ⟨hview, hq⟩ hvf
          have hadds := noFresh_adds key rs us 0 hnf
          have hmnil : outMems key 0 rs = [] := by rw [hmems, hadds]; rfl
          obtain ⟨⟨A, cap, rfl, hc1, hc2, h4⟩, hal⟩ := hr'.1
          refine ⟨A, cap, rfl, hc1, hc2, fun hl => ?_⟩
          obtain ⟨ad, rfl, hc⟩ := h4 hl
          refine ⟨ad, rfl, ⟨?_, fun key' c hk' hβ => ?_⟩, hc⟩
          · rcases hal ad.block (by simp [liveBlock, List.length_pos_iff.2 hl]) with hge | ⟨u, hu, hub⟩
            · exact h.fresh _ (Nat.le_trans h.below.size hge)
            · exact args_from h hd u hu ad.block hub
          rw [hadds] at hβ
          rw [hmnil, List.nil_append, lk_append] at hk'
          have hβ' : β key' = some ad.block := hβ
          cases hl2 : lk fz key' with
          | some y =>
            obtain ⟨c', fr'⟩ := y
            rw [hl2] at hk'
            obtain ⟨rfl, _⟩ := hfzs key' c' fr' hl2
            cases hk'
          | none =>
            rw [hl2] at hk'
            have hk2 : lk mem key' = some (c, false) := hk'
            have hlt := h.lt (by simp [hk2]) hβ'
            rcases hal ad.block (by simp [liveBlock, List.length_pos_iff.2 hl]) with hge | ⟨u, hu, hub⟩
            · omega
            · rw [hfz, if_pos hview] at hl2
              exact args_apart h hd (fun x hx => hx) u hu ad.block hub key' c hk2 hl2 hβ'
  exact hres rs us 0 hr (fun p hp => hp) id
end Go.AM
namespace Go.AM
open Go.RowKit (Below)
variable {P : Program} {V : Nat → Prop} {β : Nat → Option Nat} {w0 w w' : World} {N : Nat} {e : Env} {m : Mem} {a : Act}
variable {ty : Ty} {Γ : Gam} {d : Option Tmp} {tt : TypeId} {pos : String} {after : Array Edge} {g : Option (Nat × Bool)}

/-- Whatever stands behind the operation, it is owed at the state that the operation leaves. -/
def StepOk (P : Program) (V : Nat → Prop) (o : Oper) (w0 : World) (N : Nat) (e : Env) (m' : Mem) (a : Act) (w : World) (av : AV) : Prop :=
  ∀ (next : Act → World → Prop) (Q : Exit → Act → World → Prop), (∀ v w' β', RepB V β' w0 N e m' a w' → RepA V β' m' w' av v → next (a.put o.dst v) w') → o.wp P a w next Q
theorem Yes.ok {o : Oper} {m' : Mem} {av : AV} (h : Yes P V o w0 N e m' a w av) : StepOk P V o w0 N e m' a w av := by
  obtain ⟨v, w', β', hr, hb, hv⟩ := h
  intro next Q hn
  unfold Oper.wp
  rw [hr, Oper.upon_value]
  exact hn v w' β' hb hv

theorem src_ok {t : TypeId} {i : TI} (hh : TyOk P t i) : (P.underlying t).isSome = true := by
  have := hh.kind
  cases hk : i.kind <;> simp only [hk] at this <;> first
    | exact this.elim
    | (obtain ⟨h1, _⟩ := this; simp [h1])
    | (obtain ⟨_, fs, h1, _⟩ := this; simp [h1])
theorem slTy_ok (hty : TysOk P ty) {t : TypeId} (h : slTy ty t = true) : ∃ i el ei, TyOk P t i ∧ i.kind = .slice el ∧ TyOk P el ei ∧ ei.size = 1 := by
  unfold slTy at h
  split at h
  · rename_i i hi
    split at h
    · rename_i el hel
      split at h
      · rename_i ei hei
        exact ⟨i, el, ei, hty _ _ hi, hel, hty _ _ hei, by simpa using h⟩
      · cases h
    · cases h
  · cases h
theorem strTy_ok (hty : TysOk P ty) {t : TypeId} (h : strTy ty t = true) : ∃ i, TyOk P t i ∧ i.kind = .str := by
  unfold strTy at h
  split at h
  · rename_i i hi
    split at h
    · rename_i hk; exact ⟨i, hty _ _ hi, hk⟩
    · cases h
  · cases h
theorem boolOk_ok (hty : TysOk P ty) {t : TypeId} {u : Value} (h : boolOk ty t u = true) (b : Bool) (hu : u = .bool b) : P.underlying t = some .bool := by
  subst hu
  simp only [boolOk] at h
  split at h
  · rename_i i hi
    split at h
    · rename_i hk
      have := (hty _ _ hi).kind
      rw [hk] at this
      exact this.1
    · cases h
  · cases h
theorem bracket_ok {s : St} {n : Nat} {lo ho : Option Operand} {lh : Int × Int} (h : bracket s n lo ho = some lh) : lo? s lo = some lh.1 ∧ hi? s n ho = some lh.2 := by
  unfold bracket at h
  split at h
  · rename_i l hh h1 h2; cases h; exact ⟨h1, h2⟩
  · cases h
theorem fillParts_length (place : Nat → Option (Nat × Nat)) (s : St) : ∀ (parts : List (Nat × Operand)) (cs cs' : List Value), fillParts place s parts cs = some cs' → cs'.length = cs.length
  | [], cs, cs', h => by simp [fillParts] at h; rw [h]
  | (i, x) :: r, cs, cs', h => by
    simp only [fillParts] at h
    split at h
    · split at h
      · rw [fillParts_length place s r _ cs' h, length_setL]
      · cases h
    · cases h
theorem lk_one {key : Nat} {c : Ct} {mem : List (Nat × Ct × Bool)} : lk ([(key, c, false)] ++ mem) = fun k => if k = key then some (c, false) else lk mem k := by
  funext k; rfl
theorem fresh_one {dd : Nat} {key : Nat} {c : Ct} (h : freshM m dd [(key, c, false)]) : m key = none := by
  rcases h.1 with h1 | h1
  · cases h1
  · exact h1.2.2
theorem valOf_some {av : AV} {v : Value} (h : valOf av = some v) : av = .v v := by
  unfold valOf at h; split at h <;> simp_all
theorem resolve_func {f : Nat} {args : Array Operand} {ts : Array TypeId} (w : World) : ((execOp a.eval ⟨d, .call ⟨.value (.func f), args, ts⟩, tt, pos, after, g⟩).run P w) = (callFunc f (args.map a.eval)).run P w := by
  simp [execOp, resolve, Deferred.ofValue, Act.eval, invoke]

variable {mem : List (Nat × Ct × Bool)}
theorem call_ok (h : RepB V β w0 N e (lk mem) a w) (hΓ : GamOk P Γ) {f dd : Nat} {args : Array Operand} {ts : Array TypeId} {out : Out} (hs : stCall Γ ⟨e, lk mem⟩ dd f args.toList = some out) (hp : out.pre) (hf : freshM (lk mem) dd out.mem) :
    StepOk P V ⟨d, .call ⟨.value (.func f), args, ts⟩, tt, pos, after, g⟩ w0 N e (lk (out.mem ++ mem)) a w out.av := by
  unfold stCall at hs
  obtain ⟨⟨fk, spec⟩, h1, hs⟩ := Option.bind_eq_some_iff.1 hs
  obtain ⟨ds, h2, hs⟩ := Option.bind_eq_some_iff.1 hs
  obtain ⟨⟨p, r⟩, h3, hs⟩ := Option.map_eq_some_iff.1 hs
  have hsound := hΓ f fk spec h1
  have hds := dvs_ok h h2
  have hargs : (args.toList.map a.eval).toArray = args.map a.eval := by apply Array.ext'; simp
  have hpre : p := by
    subst hs
    cases r with
    | one r => exact hp
    | many rs => exact hp.1
  -- what is owed behind the call
  have fin : ∀ v w', Ext w w' → RepRes w w' (args.toList.map a.eval) r v → ∃ β', RepB V β' w0 N e (lk (out.mem ++ mem)) a w' ∧ RepA V β' (lk (out.mem ++ mem)) w' out.av v := by
    intro v w' hx hr
    cases r with
    | one r =>
      have hr' : RepRs w w' (args.toList.map a.eval) [r] [v] := ⟨hr, trivial⟩
      have hnd : (freshBs [r] [v]).Nodup := by
        cases r <;> simp only [freshBs]
        · simp
        · cases ownB v <;> simp
        · simp
        · cases ownB v <;> simp
      have hvf : ¬ ([r].any RV.isView = true ∧ [r].any RV.isFresh = true) := by cases r <;> simp [RV.isView, RV.isFresh]
      have hmm : outMems (16 * dd) 0 [r] = outMem (16 * dd) r := by simp [outMems]
      have hany : [r].any RV.isView = r.isView := by simp
      subst hs
      simp only [bindRes] at hf ⊢
      obtain ⟨β', hb, hl⟩ := bind_results h h2 hx hr' hnd hvf (key := 16 * dd) (dd := dd) (fz := if r.isView then freezes ⟨e, lk mem⟩ args.toList else []) (by rw [hany]) (by rw [hmm]; exact hf)
      rw [hmm] at hb hl
      exact ⟨β', hb, RepA.of_S hl.1⟩
    | many rs =>
      obtain ⟨us, rfl, hr', hnd⟩ := hr
      subst hs
      simp only [bindRes] at hf hp ⊢
      obtain ⟨β', hb, hl⟩ := bind_results h h2 hx hr' hnd hp.2 (key := 16 * dd) (dd := dd) rfl hf
      exact ⟨β', hb, us, rfl, hl⟩
  intro next Q hn
  cases fk with
  | body =>
    obtain ⟨fn, hf1, hf2, hf3, hc⟩ := hsound
    have hcall := hc ds p r h3 hpre w _ hds
    rw [hargs] at hcall
    unfold Oper.wp
    rw [resolve_func]
    have hrun : (callFunc f (args.map a.eval)).run P w = .ok (.enter f (args.map a.eval)) w := by
      have hne : fn.name ≠ "runtime.NumGoroutine" := by simpa using hf2
      have hb3 : fn.body ≠ none := fun hh => by simp [hh] at hf3
      simp [callFunc, hf1, hne, hb3]
    rw [hrun, Oper.upon_enter]
    refine hcall.mono ?_
    rintro e' w' ⟨v, rfl, hbel, hr⟩
    obtain ⟨β', hb, hv⟩ := fin v w' (Ext.of_below hbel) hr
    exact hn v w' β' hb hv
  | ext =>
    obtain ⟨v, hrun, hr, _⟩ := hsound ds p r h3 hpre w _ hds
    rw [hargs] at hrun
    unfold Oper.wp
    rw [resolve_func, hrun, Oper.upon_value]
    obtain ⟨β', hb, hv⟩ := fin v w (Ext.refl w) hr
    exact hn v w β' hb hv

theorem step_ok (h : RepB V β w0 N e (lk mem) a w) (hty : TysOk P ty) (hΓ : GamOk P Γ) {dd : Nat} {op : Op} {out : Out} (hs : aStep ty Γ ⟨e, lk mem⟩ dd op = some out) (hp : out.pre) (hf : freshM (lk mem) dd out.mem) :
    StepOk P V ⟨d, op, tt, pos, after, g⟩ w0 N e (lk (out.mem ++ mem)) a w out.av := by
  unfold aStep at hs
  split at hs
  · cases hs; exact (yes_move h _).ok
  · cases hs; exact (yes_assign h _).ok
  · split at hs
    · rename_i hc; cases hs; exact (yes_pick h hc).ok
    · cases hs
  · obtain ⟨i, hi, rfl⟩ := Option.map_eq_some_iff.1 hs
    rw [lk_one]
    exact (yes_alloc h (hty _ _ hi) (fresh_one hf)).ok
  · obtain ⟨v, hv, hs⟩ := Option.bind_eq_some_iff.1 hs
    split at hs
    · rename_i hc
      cases hs
      rw [lk_one]
      exact (yes_box h (valOf_some hv) hc (fresh_one hf)).ok
    · cases hs
  · unfold stBuild at hs
    obtain ⟨i, hi, hs⟩ := Option.bind_eq_some_iff.1 hs
    split at hs
    · rename_i fs hk
      obtain ⟨cs, hcs, rfl⟩ := Option.map_eq_some_iff.1 hs
      exact (yes_build_struct h hty (hty _ _ hi) hk hcs).ok
    · rename_i n el hk
      obtain ⟨ei, hei, hs⟩ := Option.bind_eq_some_iff.1 hs
      obtain ⟨cs, hcs, rfl⟩ := Option.map_eq_some_iff.1 hs
      exact (yes_build_arr h (hty _ _ hi) hk (hty _ _ hei) hcs).ok
    · cases hs
  · unfold stBuildSlice at hs
    obtain ⟨i, hi, hs⟩ := Option.bind_eq_some_iff.1 hs
    split at hs
    · rename_i el hk
      obtain ⟨ei, hei, hs⟩ := Option.bind_eq_some_iff.1 hs
      split at hs
      · rename_i k hki
        split at hs
        · rename_i hn
          obtain ⟨cs, hcs, hs⟩ := Option.bind_eq_some_iff.1 hs
          obtain ⟨l, hl, rfl⟩ := Option.map_eq_some_iff.1 hs
          rw [lk_one]
          exact (yes_buildSlice h (hty _ _ hi) hk (hty _ _ hei) hki hn hcs hl (fresh_one hf) (by rw [fillParts_length _ _ _ _ _ hcs]; simp)).ok
        · cases hs
      · split at hs
        · rename_i hn
          obtain ⟨cs, hcs, hs⟩ := Option.bind_eq_some_iff.1 hs
          split at hs
          · rename_i hok
            cases hs
            rw [lk_one]
            exact (yes_buildSliceS h (hty _ _ hi) hk (hty _ _ hei) hn.1 hn.2.1 hn.2.2 hcs hok (fresh_one hf)).ok
          · cases hs
        · cases hs
      · cases hs
    · cases hs
  · unfold stLoad at hs
    obtain ⟨i, hi, hs⟩ := Option.bind_eq_some_iff.1 hs
    split at hs
    · rename_i key off hx
      obtain ⟨⟨c, fr⟩, hk, hs⟩ := Option.bind_eq_some_iff.1 hs
      obtain ⟨⟨p, v⟩, hl, rfl⟩ := Option.map_eq_some_iff.1 hs
      exact (yes_load_ref h (hty _ _ hi) hx hk hl hp).ok
    · rename_i v hx
      split at hs
      · rename_i hag; cases hs; exact (yes_load_pt h (hty _ _ hi) hx hag).ok
      · cases hs
    · cases hs
  · rename_i o t x y t'
    generalize hx : opd ⟨e, lk mem⟩ x = ax at hs
    generalize hy : opd ⟨e, lk mem⟩ y = ay at hs
    unfold stBin at hs
    split at hs
    · rename_i u v
      obtain ⟨i, hi, hs⟩ := Option.bind_eq_some_iff.1 hs
      split at hs
      · rename_i hc
        split at hs
        · obtain ⟨b, hb, rfl⟩ := Option.map_eq_some_iff.1 hs
          exact (yes_eq_agg h (hty _ _ hi) hx hy hc.1 hc.2.1 hc.2.2 hb).ok
        · obtain ⟨b, hb, rfl⟩ := Option.map_eq_some_iff.1 hs
          exact (yes_neq_agg h (hty _ _ hi) hx hy hc.1 hc.2.1 hc.2.2 hb).ok
        · cases hs
      · cases hs
    · rename_i u v _
      split at hs
      · rename_i hbk
        obtain ⟨⟨p, r⟩, hb, rfl⟩ := Option.map_eq_some_iff.1 hs
        exact (yes_bin h hx hy hb hp (fun b c hu _ => boolOk_ok hty hbk b hu)).ok
      · cases hs
    · cases hs
  · unfold stUn at hs
    split at hs
    · rename_i u hx
      obtain ⟨⟨p, r⟩, hb, rfl⟩ := Option.map_eq_some_iff.1 hs
      exact (yes_un h hx hb hp).ok
    · cases hs
  · unfold stConv at hs
    obtain ⟨i0, hi0, hs⟩ := Option.bind_eq_some_iff.1 hs
    obtain ⟨i, hi, hs⟩ := Option.bind_eq_some_iff.1 hs
    split at hs
    · rename_i k u hk hx
      obtain ⟨⟨p, r⟩, hb, rfl⟩ := Option.map_eq_some_iff.1 hs
      exact (yes_convert h (hty _ _ hi) (src_ok (hty _ _ hi0)) hk hx hb hp).ok
    · rename_i k u hk hx
      obtain ⟨r, hb, rfl⟩ := Option.map_eq_some_iff.1 hs
      exact (yes_convertF h (hty _ _ hi) (src_ok (hty _ _ hi0)) hk hx hb).ok
    · cases hs
  · rename_i t x y
    generalize hx : opd ⟨e, lk mem⟩ x = ax at hs
    generalize hy : opd ⟨e, lk mem⟩ y = ay at hs
    unfold stMake at hs
    obtain ⟨i, hi, hs⟩ := Option.bind_eq_some_iff.1 hs
    split at hs
    · rename_i el hk
      obtain ⟨ei, hei, hs⟩ := Option.bind_eq_some_iff.1 hs
      split at hs
      · rename_i hb
        split at hs
        · cases hs
          rw [lk_one]
          exact (yes_makeSlice h (hty _ _ hi) hk (hty _ _ hei) ‹ei.kind = .int _› hx hy hp hb (fresh_one hf)).ok
        · cases hs
      · cases hs
    · cases hs
  · rename_i t x lo ho
    generalize hx : opd ⟨e, lk mem⟩ x = ax at hs
    unfold stSlice at hs
    split at hs
    · split at hs
      · rename_i hst
        obtain ⟨lh, hlh, rfl⟩ := Option.map_eq_some_iff.1 hs
        obtain ⟨i, hi, hk⟩ := strTy_ok hty hst
        obtain ⟨h1, h2⟩ := bracket_ok hlh
        exact (yes_slice_str h hi hk hx h1 h2 hp).ok
      · cases hs
    · split at hs
      · rename_i hst
        obtain ⟨lh, hlh, rfl⟩ := Option.map_eq_some_iff.1 hs
        obtain ⟨i, el, ei, hi, hk, hei, h1'⟩ := slTy_ok hty hst
        obtain ⟨h1, h2⟩ := bracket_ok hlh
        exact (yes_slice_rd h hi hk hei h1' hx h1 h2 hp).ok
      · cases hs
    · split at hs
      · rename_i hst
        obtain ⟨⟨c, fr⟩, hc, hs⟩ := Option.bind_eq_some_iff.1 hs
        obtain ⟨lh, hlh, rfl⟩ := Option.map_eq_some_iff.1 hs
        obtain ⟨i, el, ei, hi, hk, hei, h1'⟩ := slTy_ok hty hst
        obtain ⟨h1, h2⟩ := bracket_ok hlh
        exact (yes_slice_ow h hi hk hei h1' hx hc h1 h2 hp).ok
      · cases hs
    · split at hs
      · rename_i hst
        obtain ⟨lh, hlh, rfl⟩ := Option.map_eq_some_iff.1 hs
        obtain ⟨i, el, ei, hi, hk, hei, h1'⟩ := slTy_ok hty hst
        obtain ⟨h1, h2⟩ := bracket_ok hlh
        exact (yes_slice_al h hi hk hei h1' hx h1 h2 hp).ok
      · cases hs
    · split at hs
      · rename_i hst
        obtain ⟨lh, hlh, rfl⟩ := Option.map_eq_some_iff.1 hs
        obtain ⟨i, el, ei, hi, hk, hei, h1'⟩ := slTy_ok hty hst
        obtain ⟨h1, h2⟩ := bracket_ok hlh
        exact (yes_slice_nil (u := 0) h hi hk hei h1' hx h1 h2 hp).ok
      · cases hs
    · obtain ⟨i, hi, hs⟩ := Option.bind_eq_some_iff.1 hs
      split at hs
      · rename_i n el hk
        obtain ⟨ei, hei, hs⟩ := Option.bind_eq_some_iff.1 hs
        split at hs
        · rename_i hc
          obtain ⟨⟨c, fr⟩, hcc, hs⟩ := Option.bind_eq_some_iff.1 hs
          obtain ⟨lh, hlh, rfl⟩ := Option.map_eq_some_iff.1 hs
          obtain ⟨h1, h2⟩ := bracket_ok hlh
          exact (yes_slice_arr h (hty _ _ hi) hk (hty _ _ hei) hc.1 hc.2 hx h1 h2 hp.1 hcc hp.2).ok
        · cases hs
      · cases hs
    · cases hs
  · unfold stFieldAddr at hs
    obtain ⟨i, hi, hs⟩ := Option.bind_eq_some_iff.1 hs
    split at hs
    · rename_i fs key off hk hx
      obtain ⟨⟨o, ft⟩, hfo, rfl⟩ := Option.map_eq_some_iff.1 hs
      exact (yes_fieldAddr h (hty _ _ hi) hk hx hfo).ok
    · cases hs
  · unfold stField at hs
    obtain ⟨i, hi, hs⟩ := Option.bind_eq_some_iff.1 hs
    split at hs
    · rename_i fs cs hk hx
      obtain ⟨⟨o, ft⟩, hfo, hs⟩ := Option.bind_eq_some_iff.1 hs
      obtain ⟨fi, hfi, hs⟩ := Option.bind_eq_some_iff.1 hs
      obtain ⟨⟨p, v⟩, hl, rfl⟩ := Option.map_eq_some_iff.1 hs
      exact (yes_field h (hty _ _ hi) hk hx hfo (hty _ _ hfi) hl hp).ok
    · cases hs
  · rename_i t x y
    unfold stIndexAddr at hs
    obtain ⟨j, hj, hs⟩ := Option.bind_eq_some_iff.1 hs
    split at hs
    · rename_i k l hx
      split at hs
      · rename_i hst
        cases hs
        obtain ⟨i, el, ei, hi, hk, hei, h1'⟩ := slTy_ok hty hst
        exact (yes_indexAddr_rd h hi hk hei h1' hx hj hp).ok
      · cases hs
    · rename_i key hx
      split at hs
      · rename_i hst
        obtain ⟨⟨c, fr⟩, hc, rfl⟩ := Option.map_eq_some_iff.1 hs
        obtain ⟨i, el, ei, hi, hk, hei, h1'⟩ := slTy_ok hty hst
        exact (yes_indexAddr_ow h hi hk hei h1' hx hc hj hp).ok
      · cases hs
    · rename_i key lo n hx
      split at hs
      · rename_i hst
        cases hs
        obtain ⟨i, el, ei, hi, hk, hei, h1'⟩ := slTy_ok hty hst
        exact (yes_indexAddr_al h hi hk hei h1' hx hj hp).ok
      · cases hs
    · rename_i key n hx
      obtain ⟨i, hi, hs⟩ := Option.bind_eq_some_iff.1 hs
      split at hs
      · rename_i el hk
        obtain ⟨ei, hei, rfl⟩ := Option.map_eq_some_iff.1 hs
        exact (yes_indexAddr_ows h (hty _ _ hi) hk (hty _ _ hei) hx hj hp).ok
      · cases hs
    · rename_i key off hx
      obtain ⟨i, hi, hs⟩ := Option.bind_eq_some_iff.1 hs
      split at hs
      · rename_i n el hk
        obtain ⟨ei, hei, rfl⟩ := Option.map_eq_some_iff.1 hs
        exact (yes_indexAddr_arr h (hty _ _ hi) hk hx hj (hty _ _ hei) hp).ok
      · cases hs
    · cases hs
  · rename_i t x y
    unfold stIndex at hs
    obtain ⟨j, hj, hs⟩ := Option.bind_eq_some_iff.1 hs
    split at hs
    · rename_i b hx
      split at hs
      · rename_i hst
        cases hs
        obtain ⟨i, hi, hk⟩ := strTy_ok hty hst
        exact (yes_index_str h hi hk hx hj hp).ok
      · cases hs
    · rename_i cs hx
      obtain ⟨i, hi, hs⟩ := Option.bind_eq_some_iff.1 hs
      split at hs
      · rename_i n el hk
        obtain ⟨ei, hei, hs⟩ := Option.bind_eq_some_iff.1 hs
        obtain ⟨⟨p, v⟩, hl, rfl⟩ := Option.map_eq_some_iff.1 hs
        exact (yes_index_agg h (hty _ _ hi) hk hx hj (hty _ _ hei) hl hp.1 hp.2).ok
      · cases hs
    · cases hs
  · unfold stExtract at hs
    split at hs
    · rename_i l hx
      obtain ⟨av, hi, rfl⟩ := Option.map_eq_some_iff.1 hs
      exact (yes_extract h hx hi).ok
    · cases hs
  · rename_i x t
    generalize hx : opd ⟨e, lk mem⟩ x = ax at hs
    unfold stLen at hs
    split at hs
    · split at hs
      · rename_i hst
        cases hs
        obtain ⟨i, hi, hk⟩ := strTy_ok hty hst
        exact (yes_len_str h hi hk hx).ok
      · cases hs
    · split at hs
      · rename_i hst
        obtain ⟨n, hn, rfl⟩ := Option.map_eq_some_iff.1 hs
        obtain ⟨i, el, ei, hi, hk, hei, h1'⟩ := slTy_ok hty hst
        exact (yes_len_sl h hi hk (by rw [hx]; exact hn)).ok
      · cases hs
  · rename_i x y ts
    generalize hx : opd ⟨e, lk mem⟩ x = ax at hs
    generalize hy : opd ⟨e, lk mem⟩ y = ay at hs
    unfold stMax at hs
    split at hs
    · cases hs; exact (yes_max h hx hy).ok
    · cases hs
  · rename_i x y ts
    generalize hx : opd ⟨e, lk mem⟩ x = ax at hs
    generalize hy : opd ⟨e, lk mem⟩ y = ay at hs
    unfold stMin at hs
    split at hs
    · cases hs; exact (yes_min h hx hy).ok
    · cases hs
  · exact call_ok h hΓ hs hp hf
  · cases hs
end Go.AM
