/-
  Bits of bytes and words, as arithmetic.
-/
import Derived.WalkKit
import Derived.Lib.EndianBits
import Derived.Lib.Zigzag
namespace Go

theorem or128_fin : ∀ x : Fin 256, bits .or .u8 (x.val : Int) 128 = 128 + (x.val : Int) % 128 := by decide +kernel
theorem u8_or128' (x : Int) (h0 : 0 ≤ x) (h1 : x < 256) : bits .or .u8 x 128 = 128 + x % 128 := by
  have := or128_fin ⟨x.toNat, by omega⟩
  simpa [Int.toNat_of_nonneg h0] using this
theorem and127_fin : ∀ x : Fin 256, bits .and .u8 (x.val : Int) 127 = (x.val : Int) % 128 := by decide +kernel
theorem u8_and127 (x : Int) (h0 : 0 ≤ x) (h1 : x < 256) : bits .and .u8 x 127 = x % 128 := by
  have := and127_fin ⟨x.toNat, by omega⟩
  simpa [Int.toNat_of_nonneg h0] using this

theorem u64_or_low (i : Nat) (y x : Int) (hi : i ≤ 64) (hy0 : 0 ≤ y) (hy : y < 2 ^ i) (hx0 : 0 ≤ x) (hx : x % 2 ^ i = 0) (hx1 : x < 18446744073709551616) : bits .or .u64 y x = y + x := by
  have h2 : (2 : Int) ^ i ≤ 2 ^ 64 := by
    have : (2 : Nat) ^ i ≤ 2 ^ 64 := Nat.pow_le_pow_right (by decide) hi
    exact_mod_cast this
  exact bits_join_low .u64 64 (by decide) wraps_u64 i y x hy0 hy (by omega) hx0 hx (by simpa using hx1)

theorem acc_step (v x : Int) (i : Nat) (hi : i ≤ 9) (hv0 : 0 ≤ v) (hv : v < 128 ^ i) (hx0 : 0 ≤ x) (hx : x ≤ 255) (h9 : i = 9 → x ≤ 1) :
    bits BinOp.or IntKind.u64 v (IntKind.u64.wrap (IntKind.u64.wrap (bits BinOp.and IntKind.u8 x 127) * 2 ^ (7 * i))) = v + 128 ^ i * (x % 128) := by
  rw [u8_and127 x hx0 (by omega), IntWalk.u64_in (x % 128) (by omega)]
  rcases (by omega : i = 0 ∨ i = 1 ∨ i = 2 ∨ i = 3 ∨ i = 4 ∨ i = 5 ∨ i = 6 ∨ i = 7 ∨ i = 8 ∨ i = 9) with rfl | rfl | rfl | rfl | rfl | rfl | rfl | rfl | rfl | rfl <;>
    (simp at hv; simp at h9; (try simp only [Nat.reduceMul, Int.reducePow]); rw [IntWalk.u64_in _ (by omega)])
  · rw [u64_or_low 0 _ _ (by omega) hv0 (by omega) (by omega) (by omega) (by omega)]; omega
  · rw [u64_or_low 7 _ _ (by omega) hv0 (by omega) (by omega) (by omega) (by omega)]; omega
  · rw [u64_or_low 14 _ _ (by omega) hv0 (by omega) (by omega) (by omega) (by omega)]; omega
  · rw [u64_or_low 21 _ _ (by omega) hv0 (by omega) (by omega) (by omega) (by omega)]; omega
  · rw [u64_or_low 28 _ _ (by omega) hv0 (by omega) (by omega) (by omega) (by omega)]; omega
  · rw [u64_or_low 35 _ _ (by omega) hv0 (by omega) (by omega) (by omega) (by omega)]; omega
  · rw [u64_or_low 42 _ _ (by omega) hv0 (by omega) (by omega) (by omega) (by omega)]; omega
  · rw [u64_or_low 49 _ _ (by omega) hv0 (by omega) (by omega) (by omega) (by omega)]; omega
  · rw [u64_or_low 56 _ _ (by omega) hv0 (by omega) (by omega) (by omega) (by omega)]; omega
  · rw [u64_or_low 63 _ _ (by omega) hv0 (by omega) (by omega) (by omega) (by omega)]; omega
theorem bits_xor_comm (k : IntKind) (x y : Int) : bits .xor k x y = bits .xor k y x := by simp only [bits, BitVec.xor_comm]

theorem u64_xor0 (x : Int) (h0 : 0 ≤ x) (h1 : x < 18446744073709551616) : bits .xor .u64 x 0 = x := by
  have := bits_xor_u64_nat x.toNat 0 (by omega) (by decide)
  simpa [Int.toNat_of_nonneg h0] using this

theorem i64_xor0 (x : Int) (h0 : 0 ≤ x) (h1 : x < 9223372036854775808) : bits .xor .i64 x 0 = x := by
  show IntKind.i64.wrap ((BitVec.ofInt 64 x ^^^ BitVec.ofInt 64 0).toNat : Int) = _
  have h2 : (BitVec.ofInt 64 x).toNat = x.toNat := by
    obtain ⟨m, rfl⟩ := Int.eq_ofNat_of_zero_le h0
    rw [BitVec.ofInt_natCast, BitVec.toNat_ofNat]; exact Nat.mod_eq_of_lt (by omega)
  rw [BitVec.toNat_xor, h2]
  simp
  rw [IntWalk.i64_in _ (by omega)]
  omega

theorem zig_nonneg (n : Int) (h0 : 0 ≤ n) (h1 : n ≤ 9223372036854775807) : bits BinOp.xor IntKind.u64 (IntKind.u64.wrap (IntKind.u64.wrap n * 2)) (IntKind.u64.wrap (n / 9223372036854775808)) = 2 * n := by
  have e : n / 9223372036854775808 = 0 := by omega
  rw [e, IntWalk.u64_in n (by omega), IntWalk.u64_in (n * 2) (by omega), IntWalk.u64_in 0 (by omega), u64_xor0 _ (by omega) (by omega)]
  omega

theorem zig_neg (n : Int) (h0 : n < 0) (h1 : -9223372036854775808 ≤ n) : bits BinOp.xor IntKind.u64 (IntKind.u64.wrap (IntKind.u64.wrap n * 2)) (IntKind.u64.wrap (n / 9223372036854775808)) = -2 * n - 1 := by
  have e : n / 9223372036854775808 = -1 := by omega
  have e1 : IntKind.u64.wrap (-1) = IntKind.u64.max := by decide
  rw [e, e1, bits_xor_comm, Lib.zigzag_neg h1 h0]
  unfold Lib.zigzag
  rw [if_neg (by omega)]
  omega

theorem u64_and1 (x : Int) (h0 : 0 ≤ x) (h1 : x < 18446744073709551616) : bits .and .u64 x 1 = x % 2 := Lib.u64_and1 x h0 h1

theorem zag_bits (u : Int) (h0 : 0 ≤ u) (h1 : u ≤ 18446744073709551615) : bits .xor .i64 (u / 2) (-(u % 2)) = if u % 2 = 1 then -(u / 2) - 1 else u / 2 := by
  split
  · rename_i h
    rw [h, bits_xor_comm]
    have := Lib.i64_not (u / 2).toNat (by omega)
    rw [Int.toNat_of_nonneg (by omega)] at this
    exact this
  · have h : u % 2 = 0 := by omega
    rw [h]
    exact i64_xor0 _ (by omega) (by omega)
theorem u64_and7 (x : Int) (h0 : 0 ≤ x) (h1 : x < 18446744073709551616) : bits .and .u64 x 7 = x % 8 := by
  have h := bits_mask .u64 64 (by decide) wraps_u64 3 (by decide) x h0 (by omega)
  simpa using h
theorem u64_or_hi (i : Nat) (x y : Int) (hi : i ≤ 64) (hx0 : 0 ≤ x) (hx : x % 2 ^ i = 0) (hx1 : x < 18446744073709551616) (hy0 : 0 ≤ y) (hy : y < 2 ^ i) : bits .or .u64 x y = x + y := by
  have h2 : (2 : Int) ^ i ≤ 2 ^ 64 := by
    have : (2 : Nat) ^ i ≤ 2 ^ 64 := Nat.pow_le_pow_right (by decide) hi
    exact_mod_cast this
  exact bits_join .u64 64 (by decide) wraps_u64 i x y hx0 hx (by simpa using hx1) hy0 hy (by omega)
end Go
