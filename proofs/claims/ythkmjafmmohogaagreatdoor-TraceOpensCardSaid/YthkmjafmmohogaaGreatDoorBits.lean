/- Bits of small numbers. No program in sight. -/
import Derived.Laws.BitsLemmas
import Derived.Laws.Bits64b
import Derived.WalkKit
namespace Go.Proofs.YthkmjafmmohogaaGreatDoor
open Go

theorem u8_and127 (c : Nat) (h : c < 256) : bits .and .u8 (c : Int) 127 = ((c % 128 : Nat) : Int) := by
  have := bits_mask .u8 8 (by decide) wraps_u8 7 (by decide) (c : Int) (by omega) (by omega)
  rw [show ((2 : Int) ^ 7 - 1) = 127 from by decide] at this
  rw [this]; omega
theorem u8_and128 (c : Nat) (h : c < 256) : bits .and .u8 (c : Int) 128 = ((c / 128 * 128 : Nat) : Int) := by
  have : ∀ c : Fin 256, bits .and .u8 ((c.1 : Nat) : Int) 128 = ((c.1 / 128 * 128 : Nat) : Int) := by decide +kernel
  exact this ⟨c, h⟩
theorem u64_or_shift (m x j : Nat) (hm : m < 2 ^ j) (h : m + x * 2 ^ j < 18446744073709551616) : bits .or .u64 (m : Int) ((x * 2 ^ j : Nat) : Int) = ((m + x * 2 ^ j : Nat) : Int) := by
  rw [bits_or_u64_nat m (x * 2 ^ j) (by omega) (by omega)]
  have := Nat.shiftLeft_add_eq_or_of_lt hm x
  rw [Nat.shiftLeft_eq] at this
  rw [Nat.or_comm, ← this, Nat.add_comm]
theorem run_shl_u64 {P : Program} (x k : Nat) (w : World) (X Y : Int) (hX : X = (x : Int)) (hY : Y = (k : Int)) (hk : k < 64) (h : x * 2 ^ k < 18446744073709551616) :
    (Op.shift .shl .u64 X .i64 Y).run P w = .ok (.int .u64 ((x * 2 ^ k : Nat) : Int)) w := by
  subst hX; subst hY
  have h1 : ¬ ((k : Int) < 0) := by omega
  have h2 : min (k : Int).toNat 64 = k := by omega
  have h3 : ((x : Int) * 2 ^ k) = ((x * 2 ^ k : Nat) : Int) := by simp
  simp only [Op.shift, h1, if_false, IntKind.bits]
  rw [h2, h3, IntKind.wrap_u64]
  show Result.ok _ _ = _
  congr 2
  omega
theorem wraps_u32 (n : Int) (h₀ : 0 ≤ n) (h₁ : n < 2 ^ 32) : IntKind.u32.wrap n = n := by rw [IntKind.wrap_u32]; omega
theorem wraps_u64 (n : Int) (h₀ : 0 ≤ n) (h₁ : n < 2 ^ 64) : IntKind.u64.wrap n = n := by rw [IntKind.wrap_u64]; omega
theorem bits_or_low (k : IntKind) (j : Nat) (hj : j ≤ k.bits) (hk : ∀ n : Int, 0 ≤ n → n < 2 ^ j → k.wrap n = n) (m x i : Nat) (hm : m < 2 ^ i) (h : m + x * 2 ^ i < 2 ^ j) :
    bits .or k (m : Int) ((x * 2 ^ i : Nat) : Int) = ((m + x * 2 ^ i : Nat) : Int) := by
  rw [(bits_nat k j hj hk m (x * 2 ^ i) (by omega) (by omega)).2]
  have := Nat.shiftLeft_add_eq_or_of_lt hm x
  rw [Nat.shiftLeft_eq] at this
  rw [Nat.or_comm, ← this, Nat.add_comm]
theorem bits_or_high (k : IntKind) (j : Nat) (hj : j ≤ k.bits) (hk : ∀ n : Int, 0 ≤ n → n < 2 ^ j → k.wrap n = n) (m x i : Nat) (hm : m < 2 ^ i) (h : m + x * 2 ^ i < 2 ^ j) :
    bits .or k ((x * 2 ^ i : Nat) : Int) (m : Int) = ((m + x * 2 ^ i : Nat) : Int) := by
  rw [(bits_nat k j hj hk (x * 2 ^ i) m (by omega) (by omega)).2]
  have := Nat.shiftLeft_add_eq_or_of_lt hm x
  rw [Nat.shiftLeft_eq] at this
  rw [← this, Nat.add_comm]
theorem or32_4 (a b c d : Nat) (ha : a < 256) (hb : b < 256) (hc : c < 256) (hd : d < 256) :
    bits .or .u32 (a : Int) ((b : Int) * 256) = (a : Int) + (b : Int) * 256 ∧
    bits .or .u32 ((a : Int) + (b : Int) * 256) ((c : Int) * 65536) = (a : Int) + (b : Int) * 256 + (c : Int) * 65536 ∧
    bits .or .u32 ((a : Int) + (b : Int) * 256 + (c : Int) * 65536) ((d : Int) * 16777216) = (a : Int) + (b : Int) * 256 + (c : Int) * 65536 + (d : Int) * 16777216 := by
  have h1 := bits_or_low .u32 32 (by decide) wraps_u32 a b 8 (by omega) (by omega)
  have h2 := bits_or_low .u32 32 (by decide) wraps_u32 (a + b * 256) c 16 (by omega) (by omega)
  have h3 := bits_or_low .u32 32 (by decide) wraps_u32 (a + b * 256 + c * 65536) d 24 (by omega) (by omega)
  simp only [Nat.reducePow, Int.natCast_add, Int.natCast_mul, Int.cast_ofNat_Int] at h1 h2 h3
  exact ⟨h1, h2, h3⟩
theorem u8_or128 (m : Nat) : bits .or .u8 ((m : Int) % 256) 128 = ((m % 128 + 128 : Nat) : Int) := by
  have : ∀ c : Fin 256, bits .or .u8 ((c.1 : Nat) : Int) 128 = ((c.1 % 128 + 128 : Nat) : Int) := by decide +kernel
  have h := this ⟨m % 256, by omega⟩
  simp only at h
  rw [show ((m : Int) % 256) = ((m % 256 : Nat) : Int) from by omega, h]
  omega
theorem ofNat_toNat (n : Nat) (h : n < 256) : ((UInt8.ofNat n).toNat : Int) = n := by
  rw [UInt8.toNat_ofNat']; omega
theorem ofInt_nat64 (x : Nat) (h : x < 18446744073709551616) : (BitVec.ofInt 64 (x : Int)).toNat = x := by
  rw [BitVec.ofInt_natCast, BitVec.toNat_ofNat]; exact Nat.mod_eq_of_lt (by omega)
theorem u64_xor_zero (x : Nat) (h : x < 18446744073709551616) : bits .xor .u64 (x : Int) 0 = x := by
  have := bits_xor_u64_nat x 0 h (by omega)
  simpa using this
theorem u64_xor_ones (x : Nat) (h : x < 18446744073709551616) : bits .xor .u64 (x : Int) 18446744073709551615 = ((18446744073709551615 - x : Nat) : Int) := by
  have e : BitVec.ofInt 64 18446744073709551615 = BitVec.allOnes 64 := by decide
  show IntKind.u64.wrap ((BitVec.ofInt 64 (x : Int) ^^^ BitVec.ofInt 64 18446744073709551615).toNat : Int) = _
  rw [e, BitVec.xor_allOnes, BitVec.toNat_not, ofInt_nat64 x h, IntKind.wrap_u64]
  omega
theorem i64_xor_zero (x : Nat) (h : x < 9223372036854775808) : bits .xor .i64 (x : Int) 0 = x := by
  show IntKind.i64.wrap ((BitVec.ofInt 64 (x : Int) ^^^ BitVec.ofInt 64 0).toNat : Int) = _
  rw [show BitVec.ofInt 64 0 = 0#64 from by decide, BitVec.xor_zero, ofInt_nat64 x (by omega), IntKind.wrap_i64]
  omega
theorem i64_xor_ones (x : Nat) (h : x < 9223372036854775808) : bits .xor .i64 (x : Int) (-1) = -(x : Int) - 1 := by
  have e : BitVec.ofInt 64 (-1) = BitVec.allOnes 64 := by decide
  show IntKind.i64.wrap ((BitVec.ofInt 64 (x : Int) ^^^ BitVec.ofInt 64 (-1)).toNat : Int) = _
  rw [e, BitVec.xor_allOnes, BitVec.toNat_not, ofInt_nat64 x (by omega), IntKind.wrap_i64]
  omega
theorem u64_and1 (n : Nat) (h : n < 18446744073709551616) : bits .and .u64 (n : Int) 1 = ((n % 2 : Nat) : Int) := by
  have := bits_and_u64_nat n 1 h (by omega)
  rw [Nat.and_one_is_mod] at this
  simpa using this
end Go.Proofs.YthkmjafmmohogaaGreatDoor
