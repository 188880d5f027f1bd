/- Whole numbers of a machine that are in range. -/
import Derived.Test.YtdmfnlcbfmahhaaHlRows
namespace Go.Proofs.Ytdmfnlcbfmahhaa
namespace Hl
open Go

theorem wU_of {n : Int} (h0 : 0 ≤ n) (h1 : n < 18446744073709551616) : wU n = n := by
  show IntKind.wrap .u64 n = n
  simp [IntKind.wrap, IntKind.signed, IntKind.bits]
  omega

theorem wI_of {n : Int} (h0 : -9223372036854775808 ≤ n) (h1 : n < 9223372036854775808) : wI n = n := by
  show IntKind.wrap .i64 n = n
  simp [IntKind.wrap, IntKind.signed, IntKind.bits]
  omega

theorem wU_eq (n : Int) : wU n = n % 18446744073709551616 := by
  show IntKind.wrap .u64 n = _
  simp [IntKind.wrap, IntKind.signed, IntKind.bits]

theorem wU_lt (n : Int) : wU n < 18446744073709551616 := by rw [wU_eq]; omega
theorem wU_ge (n : Int) : 0 ≤ wU n := by rw [wU_eq]; omega

theorem wI_eq (n : Int) : wI n = (n + 9223372036854775808) % 18446744073709551616 - 9223372036854775808 := by
  show IntKind.wrap .i64 n = _
  simp [IntKind.wrap, IntKind.signed, IntKind.bits]
  omega

theorem w8_of {n : Int} (h0 : 0 ≤ n) (h1 : n < 256) : IntKind.u8.wrap n = n := by
  simp [IntKind.wrap, IntKind.signed, IntKind.bits]
  omega

theorem wU_nat {n : Nat} (h1 : n < 18446744073709551616) : wU (n : Int) = n := wU_of (by omega) (by omega)
theorem wI_nat {n : Nat} (h1 : n < 9223372036854775808) : wI (n : Int) = n := wI_of (by omega) (by omega)

theorem tdiv_nat (a b : Nat) : (a : Int).tdiv (b : Int) = ((a / b : Nat) : Int) := rfl
theorem tmod_nat (a b : Nat) : (a : Int).tmod (b : Int) = ((a % b : Nat) : Int) := rfl
theorem fdiv_nat (a b : Nat) : (a : Int).fdiv (b : Int) = ((a / b : Nat) : Int) := by rw [Int.ofNat_fdiv]

theorem wU_sub {a b : Nat} (h : b ≤ a) (ha : a < 18446744073709551616) : wU ((a : Int) - (b : Int)) = ((a - b : Nat) : Int) := by rw [wU_of] <;> omega

/-- A power of two, as a shift. -/
theorem shl_nat {k : Nat} (h : k ≤ 62) : wI (1 * 2 ^ min (k : Int).toNat 64) = ((2 ^ k : Nat) : Int) := by
  have : 2 ^ k ≤ 2 ^ 62 := Nat.pow_le_pow_right (by omega) h
  rw [Int.toNat_natCast, Nat.min_eq_left (by omega), Int.one_mul]
  have h2 : ((2 : Int) ^ k) = ((2 ^ k : Nat) : Int) := by simp
  rw [h2, wI_nat (by omega)]

theorem shr_nat {a k : Nat} (h : k ≤ 64) : (a : Int).fdiv (2 ^ min (k : Int).toNat 64) = ((a / 2 ^ k : Nat) : Int) := by
  rw [Int.toNat_natCast, Nat.min_eq_left h, show ((2 : Int) ^ k) = ((2 ^ k : Nat) : Int) by simp, fdiv_nat]

end Hl
end Go.Proofs.Ytdmfnlcbfmahhaa
