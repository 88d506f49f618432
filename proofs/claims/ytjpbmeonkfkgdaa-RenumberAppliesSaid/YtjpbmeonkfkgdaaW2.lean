/- Words for int's bits. No program in sight. -/
import Derived.Laws.BitsAllLaws
import Derived.Laws.BitsLemmas
namespace Go.Proofs.Ytjpbmeonkfkgdaa
theorem nat_of_i64 (a : Nat) (ha : a < 9223372036854775808) : (BitVec.ofInt 64 (a : Int)).toNat = a := by
  rw [BitVec.ofInt_natCast, BitVec.toNat_ofNat]; exact Nat.mod_eq_of_lt (by omega)
theorem and_i64 (a b : Nat) (ha : a < 9223372036854775808) (hb : b < 9223372036854775808) : bits .and .i64 (a : Int) (b : Int) = ((a &&& b : Nat) : Int) := by
  have hx : a &&& b < 2 ^ 63 := Nat.and_lt_two_pow _ (by omega)
  show IntKind.i64.wrap ((BitVec.ofInt 64 (a : Int) &&& BitVec.ofInt 64 (b : Int)).toNat : Int) = _
  rw [BitVec.toNat_and, nat_of_i64 a ha, nat_of_i64 b hb, IntKind.wrap_i64]
  omega
theorem or_i64 (a b : Nat) (ha : a < 9223372036854775808) (hb : b < 9223372036854775808) : bits .or .i64 (a : Int) (b : Int) = ((a ||| b : Nat) : Int) := by
  have hx : a ||| b < 2 ^ 63 := Nat.or_lt_two_pow (by omega) (by omega)
  show IntKind.i64.wrap ((BitVec.ofInt 64 (a : Int) ||| BitVec.ofInt 64 (b : Int)).toNat : Int) = _
  rw [BitVec.toNat_or, nat_of_i64 a ha, nat_of_i64 b hb, IntKind.wrap_i64]
  omega
/-- '&' with a mask of the lowest i bits. -/
theorem mask_i64 (i : Nat) (hi : i < 63) (x : Int) (h0 : 0 ≤ x) (h1 : x < 9223372036854775808) : bits .and .i64 x ((2 ^ i - 1 : Nat) : Int) = x % ((2 ^ i : Nat) : Int) := by
  obtain ⟨a, rfl⟩ := Int.eq_ofNat_of_zero_le h0
  have hp : 2 ^ i < 2 ^ 63 := Nat.pow_lt_pow_right (by omega) hi
  rw [and_i64 a _ (by omega) (by omega), Nat.and_two_pow_sub_one_eq_mod]
  rfl
/-- '|' of a multiple of 2^i and what lies below. -/
theorem join_i64 (i : Nat) (x y : Int) (hx : 0 ≤ x) (hy : 0 ≤ y) (hyi : y < ((2 ^ i : Nat) : Int)) (h1 : x * ((2 ^ i : Nat) : Int) + y < 9223372036854775808) :
    bits .or .i64 (x * ((2 ^ i : Nat) : Int)) y = x * ((2 ^ i : Nat) : Int) + y := by
  obtain ⟨a, rfl⟩ := Int.eq_ofNat_of_zero_le hx
  obtain ⟨b, rfl⟩ := Int.eq_ofNat_of_zero_le hy
  have hb : b < 2 ^ i := by omega
  have e : ((a : Int) * ((2 ^ i : Nat) : Int)) = ((a * 2 ^ i : Nat) : Int) := by rw [Int.natCast_mul]
  rw [e] at h1 ⊢
  rw [or_i64 _ b (by omega) (by omega)]
  have := Nat.two_pow_add_eq_or_of_lt hb a
  rw [Nat.mul_comm] at this
  rw [← this]
  omega
theorem nat_of_u8 (a : Nat) (ha : a < 256) : (BitVec.ofInt 8 (a : Int)).toNat = a := by
  rw [BitVec.ofInt_natCast, BitVec.toNat_ofNat]; exact Nat.mod_eq_of_lt (by omega)
theorem or_u8 (a b : Nat) (ha : a < 256) (hb : b < 256) : bits .or .u8 (a : Int) (b : Int) = ((a ||| b : Nat) : Int) := by
  have hx : a ||| b < 2 ^ 8 := Nat.or_lt_two_pow (by omega) (by omega)
  show IntKind.u8.wrap ((BitVec.ofInt 8 (a : Int) ||| BitVec.ofInt 8 (b : Int)).toNat : Int) = _
  rw [BitVec.toNat_or, nat_of_u8 a ha, nat_of_u8 b hb, IntKind.wrap_u8]
  omega
/-- '|' of a multiple of 2^i and what lies below, on bytes. -/
theorem join_u8 (i x : Nat) (y : Int) (hy : 0 ≤ y) (hyi : y < ((2 ^ i : Nat) : Int)) (h1 : ((x * 2 ^ i : Nat) : Int) + y < 256) :
    bits .or .u8 ((x * 2 ^ i : Nat) : Int) y = ((x * 2 ^ i : Nat) : Int) + y := by
  obtain ⟨b, rfl⟩ := Int.eq_ofNat_of_zero_le hy
  have hb : b < 2 ^ i := by omega
  rw [or_u8 _ b (by omega) (by omega)]
  have := Nat.two_pow_add_eq_or_of_lt hb x
  rw [Nat.mul_comm] at this
  rw [← this]
  omega
end Go.Proofs.Ytjpbmeonkfkgdaa
