/-
  Words of 8 and 64 bits: masks, disjoint sums, shifts, as the walk writes them.
-/
import Derived.Laws.BitsLemmas
import Derived.Laws.Bits64
import Derived.Lib.BitFns
import Derived.Lib.Zigzag
namespace Go.Proofs.YtnhbgjgfneoajaaDoor.B

theorem wraps_u64 (n : Int) (h0 : 0 ≤ n) (h1 : n < 2 ^ 64) : IntKind.u64.wrap n = n := by rw [IntKind.wrap_u64]; omega
theorem wrap_u64_nat (n : Nat) (h : n < 18446744073709551616) : IntKind.u64.wrap (n : Int) = (n : Int) := by rw [IntKind.wrap_u64]; omega
theorem wrap_u8_nat (n : Nat) (h : n < 256) : IntKind.u8.wrap (n : Int) = (n : Int) := by rw [IntKind.wrap_u8]; omega

/-- the seven low bits of a byte -/
theorem and127 (c : Nat) (h : c < 256) : bits .and .u8 (c : Int) 127 = ((c % 128 : Nat) : Int) := by
  have := bits_mask .u8 8 (by decide) wraps_u8 7 (by decide) (c : Int) (by omega) (by omega)
  simpa using this

theorem pow128 (k : Nat) : 128 ^ k = 2 ^ (7 * k) := by rw [Nat.pow_mul]

/-- a number below 2^i, and a multiple of 2^i -/
theorem or_u64 (i N D : Nat) (hN : N < 2 ^ i) (hN' : N < 18446744073709551616) (hD : 2 ^ i * D < 18446744073709551616) :
    bits .or .u64 (N : Int) ((2 ^ i * D : Nat) : Int) = ((N + 2 ^ i * D : Nat) : Int) := by
  rw [(bits_nat .u64 64 (by decide) wraps_u64 N (2 ^ i * D) (by simpa using hN') (by simpa using hD)).2, Nat.or_comm, ← Nat.two_pow_add_eq_or_of_lt hN D, Nat.add_comm]

/-- the next group of a varint -/
theorem or_group (N d k : Nat) (hN : N < 128 ^ k) (hk : k ≤ 9) (hd : d < 128) (hfit : d * 128 ^ k < 18446744073709551616) :
    bits .or .u64 (N : Int) (IntKind.u64.wrap (IntKind.u64.wrap (d : Int) * 2 ^ (7 * k))) = ((N + d * 128 ^ k : Nat) : Int) := by
  rw [wrap_u64_nat d (by omega)]
  have e : ((d : Int) * 2 ^ (7 * k)) = ((2 ^ (7 * k) * d : Nat) : Int) := by
    rw [Int.natCast_mul, Int.mul_comm]; simp
  have h9 : 128 ^ k ≤ 128 ^ 9 := Nat.pow_le_pow_right (by omega) hk
  have hf : 2 ^ (7 * k) * d < 18446744073709551616 := by rw [← pow128, Nat.mul_comm]; exact hfit
  rw [e, wrap_u64_nat _ hf, or_u64 (7 * k) N d (by rw [← pow128]; exact hN) (by simp at h9; omega) hf, Nat.mul_comm, pow128]

theorem bitLen_group (c : Nat) (h : c < 128) : Lib.bitLen c ≤ 7 := Lib.bitLen_le c 7 (by omega) (by omega)
theorem bitLen_one (c : Nat) : c < 128 → (Lib.bitLen c ≤ 1 ↔ c ≤ 1) := by
  have h : ∀ n : Fin 128, (Lib.bitLen n.val ≤ 1 ↔ n.val ≤ 1) := by decide +kernel
  exact fun hc => h ⟨c, hc⟩

theorem and1_u64 (n : Nat) (h : n < 18446744073709551616) : bits .and .u64 (n : Int) 1 = ((n % 2 : Nat) : Int) := by
  have := bits_mask .u64 64 (by decide) wraps_u64 1 (by decide) (n : Int) (by omega) (by omega)
  simpa using this

theorem ofInt_m1 : BitVec.ofInt 64 (-1) = BitVec.ofNat 64 (2 ^ 64 - 1) := by decide

theorem xor_i64_m1 (a : Nat) (h : a < 9223372036854775808) : bits .xor .i64 (a : Int) (-1) = -(a : Int) - 1 := by
  show IntKind.i64.wrap (((BitVec.ofInt 64 (a : Int)) ^^^ (BitVec.ofInt 64 (-1))).toNat : Int) = _
  rw [ofInt_m1, BitVec.ofInt_natCast, BitVec.toNat_xor, BitVec.toNat_ofNat, BitVec.toNat_ofNat, Nat.mod_eq_of_lt (by omega), Nat.mod_eq_of_lt (by omega), Nat.xor_comm, Lib.xor_ones64 _ (by omega), IntKind.wrap_i64]
  omega

theorem xor_i64_0 (a : Nat) (h : a < 9223372036854775808) : bits .xor .i64 (a : Int) 0 = (a : Int) := by
  show IntKind.i64.wrap (((BitVec.ofInt 64 (a : Int)) ^^^ (BitVec.ofInt 64 ((0 : Nat) : Int))).toNat : Int) = _
  rw [BitVec.ofInt_natCast, BitVec.ofInt_natCast, BitVec.toNat_xor, BitVec.toNat_ofNat, BitVec.toNat_ofNat, Nat.mod_eq_of_lt (by omega), Nat.zero_mod, Nat.xor_zero, IntKind.wrap_i64]
  omega

theorem xor_u64_0 (a : Nat) (h : a < 18446744073709551616) : bits .xor .u64 (a : Int) ((0 : Nat) : Int) = (a : Int) := by
  rw [bits_xor_u64_nat a 0 h (by omega), Nat.xor_zero]

theorem xor_u64_ones (a : Nat) (h : a < 18446744073709551616) : bits .xor .u64 (a : Int) ((18446744073709551615 : Nat) : Int) = ((18446744073709551615 - a : Nat) : Int) := by
  rw [bits_xor_u64_nat a _ h (by omega), Nat.xor_comm, show 18446744073709551615 = 2 ^ 64 - 1 from rfl, Lib.xor_ones64 a (by omega)]

end Go.Proofs.YtnhbgjgfneoajaaDoor.B
