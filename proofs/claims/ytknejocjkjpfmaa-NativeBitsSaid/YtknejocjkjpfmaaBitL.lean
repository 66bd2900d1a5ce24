/- Part BitL of the proof: own text. -/
import Derived.Test.YtknejocjkjpfmaaAmW
set_option linter.all false
namespace Go.AM
theorem ofInt_toNat {k : IntKind} {a : Int} (h0 : 0 ≤ a) (h1 : a < 2 ^ k.bits) : (BitVec.ofInt k.bits a).toNat = a.toNat := by
  rw [BitVec.toNat_ofInt]
  congr 1
  rw [Int.emod_eq_of_lt h0]
  exact_mod_cast h1
theorem wrap_u64 {n : Nat} (h : n < 18446744073709551616) : IntKind.u64.wrap (n : Int) = n := by
  simp only [IntKind.wrap]
  simp [IntKind.bits, IntKind.signed]
  omega
theorem wrap_u32 {n : Nat} (h : n < 4294967296) : IntKind.u32.wrap (n : Int) = n := by
  simp only [IntKind.wrap]
  simp [IntKind.bits, IntKind.signed]
  omega
theorem and_u64 {a b : Int} (ha : 0 ≤ a ∧ a < 18446744073709551616) (hb : 0 ≤ b ∧ b < 18446744073709551616) : bits .and .u64 a b = ((a.toNat &&& b.toNat : Nat) : Int) := by
  simp only [bits]
  rw [BitVec.toNat_and, ofInt_toNat ha.1 (by simpa [IntKind.bits] using ha.2), ofInt_toNat hb.1 (by simpa [IntKind.bits] using hb.2)]
  exact wrap_u64 (Nat.lt_of_le_of_lt Nat.and_le_left (by omega))
theorem or_u64 {a b : Int} (ha : 0 ≤ a ∧ a < 18446744073709551616) (hb : 0 ≤ b ∧ b < 18446744073709551616) : bits .or .u64 a b = ((a.toNat ||| b.toNat : Nat) : Int) := by
  simp only [bits]
  rw [BitVec.toNat_or, ofInt_toNat ha.1 (by simpa [IntKind.bits] using ha.2), ofInt_toNat hb.1 (by simpa [IntKind.bits] using hb.2)]
  exact wrap_u64 (Nat.or_lt_two_pow (n := 64) (by omega) (by omega))
theorem and_u32 {a b : Int} (ha : 0 ≤ a ∧ a < 4294967296) (hb : 0 ≤ b ∧ b < 4294967296) : bits .and .u32 a b = ((a.toNat &&& b.toNat : Nat) : Int) := by
  simp only [bits]
  rw [BitVec.toNat_and, ofInt_toNat ha.1 (by simpa [IntKind.bits] using ha.2), ofInt_toNat hb.1 (by simpa [IntKind.bits] using hb.2)]
  exact wrap_u32 (Nat.lt_of_le_of_lt Nat.and_le_left (by omega))
theorem and_mask {a : Int} (n : Nat) (ha : 0 ≤ a ∧ a < 18446744073709551616) (hn : n ≤ 64) : bits .and .u64 a (2 ^ n - 1 : Int) = a % 2 ^ n := by
  have h1 : (2:Int) ^ n ≤ 2 ^ 64 := by exact_mod_cast Nat.pow_le_pow_right (by omega) hn
  have h2 : (1:Int) ≤ 2 ^ n := by exact_mod_cast Nat.one_le_two_pow
  have h64 : (2:Int) ^ 64 = 18446744073709551616 := by decide
  rw [and_u64 ha ⟨by omega, by omega⟩]
  have e : ((2:Int) ^ n - 1).toNat = 2 ^ n - 1 := by
    have : ((2:Int) ^ n - 1) = ((2 ^ n - 1 : Nat) : Int) := by
      rw [Int.natCast_sub Nat.one_le_two_pow]; simp
    rw [this]; rfl
  rw [e, Nat.and_two_pow_sub_one_eq_mod]
  have h3 : ((a.toNat : Nat) : Int) = a := by omega
  rw [Int.natCast_emod, h3]
  simp
end Go.AM
