/-
  Bits of small numbers of kind int: plain facts. Conditions: numbers below 2 to the 62nd.
-/
import Derived.Test.YtpilfhjlfbjloaaGreatDoorBLib
import Derived.WalkKit
import Derived.WalkLawsBesides
namespace Go.Proofs.YtpilfhjlfbjloaaGreatDoor
open Go.RowKit

theorem ofInt_i64 (a : Nat) (ha : a < 4611686018427387904) : (BitVec.ofInt 64 (a : Int)).toNat = a := by
  rw [BitVec.ofInt_natCast, BitVec.toNat_ofNat]; exact Nat.mod_eq_of_lt (by omega)
theorem i64_and_nat (a b : Nat) (ha : a < 4611686018427387904) (hb : b < 4611686018427387904) : bits .and .i64 (a : Int) (b : Int) = ((a &&& b : Nat) : Int) := by
  have hx : a &&& b < 2 ^ 62 := Nat.and_lt_two_pow _ (by omega)
  show IntKind.i64.wrap ((BitVec.ofInt 64 (a : Int) &&& BitVec.ofInt 64 (b : Int)).toNat : Int) = _
  rw [BitVec.toNat_and, ofInt_i64 a ha, ofInt_i64 b hb, IntKind.wrap_i64]
  omega
theorem i64_or_nat (a b : Nat) (ha : a < 4611686018427387904) (hb : b < 4611686018427387904) : bits .or .i64 (a : Int) (b : Int) = ((a ||| b : Nat) : Int) := by
  have hx : a ||| b < 2 ^ 62 := Nat.or_lt_two_pow (by omega) (by omega)
  show IntKind.i64.wrap ((BitVec.ofInt 64 (a : Int) ||| BitVec.ofInt 64 (b : Int)).toNat : Int) = _
  rw [BitVec.toNat_or, ofInt_i64 a ha, ofInt_i64 b hb, IntKind.wrap_i64]
  omega
theorem i64_andNot_nat (a b : Nat) (ha : a < 4611686018427387904) (hb : b < 4611686018427387904) : bits .andNot .i64 (a : Int) (b : Int) = ((a &&& (18446744073709551615 - b) : Nat) : Int) := by
  have hx : a &&& (18446744073709551615 - b) ≤ a := Nat.and_le_left
  show IntKind.i64.wrap ((BitVec.ofInt 64 (a : Int) &&& ~~~BitVec.ofInt 64 (b : Int)).toNat : Int) = _
  rw [BitVec.toNat_and, BitVec.toNat_not, ofInt_i64 a ha, ofInt_i64 b hb, IntKind.wrap_i64]
  have e : 2 ^ 64 - 1 - b = 18446744073709551615 - b := by omega
  rw [e]
  omega
theorem or_pow {n k : Nat} (h : n < 2 ^ k) : n ||| 2 ^ k = n + 2 ^ k := by
  have := Nat.two_pow_add_eq_or_of_lt h 1
  rw [Nat.mul_one] at this
  rw [Nat.or_comm, ← this]
  omega

/-- The step of 'given'. -/
theorem given_step {n k : Nat} (h : n < 2 ^ k) (hk : k < 10) : bits .or .i64 (n : Int) (wrap64 (2 ^ k)) = ((n + 2 ^ k : Nat) : Int) := by
  have h2 : 2 ^ k ≤ 2 ^ 9 := Nat.pow_le_pow_right (by omega) (by omega)
  have e : wrap64 (2 ^ k) = ((2 ^ k : Nat) : Int) := by
    have e1 : (2 : Int) ^ k = ((2 ^ k : Nat) : Int) := by simp
    rw [e1]
    unfold wrap64
    omega
  rw [e, i64_or_nat _ _ (by omega) (by omega), or_pow h]

end Go.Proofs.YtpilfhjlfbjloaaGreatDoor
