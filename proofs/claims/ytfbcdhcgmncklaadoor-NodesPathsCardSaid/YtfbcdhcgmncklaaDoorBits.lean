/- The bit of directories. No dump. -/
import Derived.Test.YtfbcdhcgmncklaaDoorSpec
namespace Go.Nd
open Go

theorem top_bit (i : Nat) (h : i < 32) : (2147483648#32).getLsbD i = decide (i = 31) := by
  have : ∀ j : Fin 32, (2147483648#32).getLsbD j.val = decide (j.val = 31) := by decide
  exact this ⟨i, h⟩
theorem and_top (x : BitVec 32) : x &&& 2147483648#32 = if x.msb then 2147483648#32 else 0#32 := by
  apply BitVec.eq_of_getLsbD_eq
  intro i hi
  rw [BitVec.getLsbD_and, top_bit i hi, BitVec.msb_eq_getLsbD_last]
  by_cases h : i = 31
  · subst h; cases hx : x.getLsbD 31 <;> simp_all
  · cases hx : x.getLsbD (32 - 1) <;> simp [h, top_bit i hi]
theorem isDir_msb (m : Int) : isDir m = (BitVec.ofInt 32 m).msb := by
  have e : BitVec.ofInt 32 2147483648 = 2147483648#32 := by decide
  have : bits .and .u32 m 2147483648 = if (BitVec.ofInt 32 m).msb then 2147483648 else 0 := by
    show IntKind.u32.wrap (((BitVec.ofInt 32 m) &&& (BitVec.ofInt 32 2147483648)).toNat : Int) = _
    rw [e, and_top]
    split <;> decide
  unfold isDir
  rw [this]
  cases (BitVec.ofInt 32 m).msb <;> decide
theorem wrap_u32 {n : Int} (h0 : 0 ≤ n) (h1 : n < 4294967296) : IntKind.u32.wrap n = n := by
  simp [IntKind.wrap, IntKind.bits, IntKind.signed]; omega
theorem bits_or_ofInt (a b : Int) : BitVec.ofInt 32 (bits .or .u32 a b) = BitVec.ofInt 32 a ||| BitVec.ofInt 32 b := by
  show BitVec.ofInt 32 (IntKind.u32.wrap (((BitVec.ofInt 32 a) ||| (BitVec.ofInt 32 b)).toNat : Int)) = _
  rw [wrap_u32 (by omega) (by have := ((BitVec.ofInt 32 a) ||| (BitVec.ofInt 32 b)).isLt; omega)]
  apply BitVec.eq_of_toNat_eq
  rw [BitVec.ofInt_natCast, BitVec.toNat_ofNat, Nat.mod_eq_of_lt (BitVec.isLt _)]
theorem bits_xor_ofInt (a b : Int) : BitVec.ofInt 32 (bits .xor .u32 a b) = BitVec.ofInt 32 a ^^^ BitVec.ofInt 32 b := by
  show BitVec.ofInt 32 (IntKind.u32.wrap (((BitVec.ofInt 32 a) ^^^ (BitVec.ofInt 32 b)).toNat : Int)) = _
  rw [wrap_u32 (by omega) (by have := ((BitVec.ofInt 32 a) ^^^ (BitVec.ofInt 32 b)).isLt; omega)]
  apply BitVec.eq_of_toNat_eq
  rw [BitVec.ofInt_natCast, BitVec.toNat_ofNat, Nat.mod_eq_of_lt (BitVec.isLt _)]
theorem isDir_or (p : Int) : isDir (bits .or .u32 2147483648 p) = true := by
  rw [isDir_msb, bits_or_ofInt, BitVec.msb_or]
  have : (BitVec.ofInt 32 2147483648).msb = true := by decide
  rw [this]; rfl
theorem isDir_xor (a b : Int) : (bits .and .u32 (bits .xor .u32 a b) 2147483648 != 0) = (isDir a != isDir b) := by
  have : (bits .and .u32 (bits .xor .u32 a b) 2147483648 != 0) = isDir (bits .xor .u32 a b) := rfl
  rw [this, isDir_msb, bits_xor_ofInt, BitVec.msb_xor, isDir_msb, isDir_msb]
theorem isDir_iff {m : Int} (h0 : 0 ≤ m) (h1 : m < 4294967296) : isDir m = true ↔ 2147483648 ≤ m := by
  rw [isDir_msb, BitVec.msb_eq_decide]
  obtain ⟨n, rfl⟩ := Int.eq_ofNat_of_zero_le h0
  rw [BitVec.ofInt_natCast, BitVec.toNat_ofNat, Nat.mod_eq_of_lt (by omega)]
  simp; omega
theorem bits_u32 (op : BinOp) (a b : Int) : 0 ≤ bits op .u32 a b ∧ bits op .u32 a b < 4294967296 :=
  ⟨bits_lo_u32 op a b, by have := bits_hi_u32 op a b; omega⟩
end Go.Nd
