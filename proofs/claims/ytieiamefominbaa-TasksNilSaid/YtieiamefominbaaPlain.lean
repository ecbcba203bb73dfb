/-
  Plain facts on parts of records, and fields of words: no program in sight. Conditions: none.
-/
import Derived.WalkKit
import Derived.WalkLawsBesides
namespace Go.Proofs.Ytieiamefominbaa
open Go.RowKit

/-- A field's number: bits a .. a+n-1. -/
def getS (a n x : Nat) : Nat := x / 2 ^ a % 2 ^ n
/-- The same, the highest bit of which counts below 0. -/
def sgnS (a n x : Nat) : Int := if getS a n x < 2 ^ (n - 1) then (getS a n x : Int) else (getS a n x : Int) - 2 ^ n

theorem max_eq (n : Int) (h1 : 1 ≤ n) (h2 : n ≤ 64) : (18446744073709551615 : Int) / 2 ^ (64 - n).toNat = 2 ^ n.toNat - 1 := by
  obtain ⟨k, rfl⟩ := Int.eq_ofNat_of_zero_le (show 0 ≤ n by omega)
  have h : ∀ k : Nat, k ≤ 64 → (18446744073709551615 : Int) / 2 ^ ((64 : Int) - (k : Int)).toNat = 2 ^ ((k : Int)).toNat - 1 := by decide +kernel
  exact h k (by omega)

theorem pow_sub_cast (k : Nat) : ((2 ^ k - 1 : Nat) : Int) = 2 ^ k - 1 := by
  have h : 1 ≤ 2 ^ k := Nat.one_le_two_pow
  rw [Int.natCast_sub h]
  simp

theorem get_eq (a n : Int) (x : Nat) (ha : 0 ≤ a) (hn : 1 ≤ n) (h : a + n ≤ 64) (hx : x < 18446744073709551616) :
    bits .and .u64 ((x : Int) / 2 ^ a.toNat) (((2 ^ n.toNat - 1 : Nat)) : Int) = (getS a.toNat n.toNat x : Int) := by
  obtain ⟨p, rfl⟩ := Int.eq_ofNat_of_zero_le ha
  obtain ⟨q, rfl⟩ := Int.eq_ofNat_of_zero_le (show 0 ≤ n by omega)
  have e1 : ((x : Int) / 2 ^ ((p : Int)).toNat) = ((x / 2 ^ p : Nat) : Int) := by simp
  have h2 : 2 ^ q ≤ 2 ^ 64 := Nat.pow_le_pow_right (by omega) (by omega)
  rw [e1, Int.toNat_natCast, u64_and_nat _ _ (Nat.lt_of_le_of_lt (Nat.div_le_self _ _) hx) (by omega)]
  rw [Nat.and_two_pow_sub_one_eq_mod]
  simp [getS]

/-- A word with the lowest bits of a number in a field. -/
def setS (a n x y : Nat) : Nat := x % 2 ^ a + y % 2 ^ n * 2 ^ a + x / 2 ^ (a + n) * 2 ^ (a + n)

theorem mask_lt {a n : Nat} (h : a + n ≤ 64) : (2 ^ n - 1) * 2 ^ a < 2 ^ 64 := by
  have h1 : 2 ^ n * 2 ^ a = 2 ^ (a + n) := by rw [← Nat.pow_add, Nat.add_comm]
  have h2 : 2 ^ (a + n) ≤ 2 ^ 64 := Nat.pow_le_pow_right (by omega) h
  have h3 : 0 < 2 ^ a := Nat.two_pow_pos _
  rw [Nat.sub_mul, h1]
  omega

theorem field_lt {a n : Nat} (h : a + n ≤ 64) (y : Nat) : y % 2 ^ n * 2 ^ a < 2 ^ 64 := by
  have h1 : 2 ^ n * 2 ^ a = 2 ^ (a + n) := by rw [← Nat.pow_add, Nat.add_comm]
  have h2 : 2 ^ (a + n) ≤ 2 ^ 64 := Nat.pow_le_pow_right (by omega) h
  have h3 : y % 2 ^ n < 2 ^ n := Nat.mod_lt _ (Nat.two_pow_pos _)
  have h4 : y % 2 ^ n * 2 ^ a < 2 ^ n * 2 ^ a := Nat.mul_lt_mul_of_pos_right h3 (Nat.two_pow_pos _)
  omega

theorem setS_testBit {a n x y i : Nat} : (setS a n x y).testBit i = if i < a then x.testBit i else if i < a + n then y.testBit (i - a) else x.testBit i := by
  have e : setS a n x y = 2 ^ a * (2 ^ n * (x / 2 ^ (a + n)) + y % 2 ^ n) + x % 2 ^ a := by
    unfold setS
    rw [Nat.mul_add, ← Nat.mul_assoc, ← Nat.pow_add, Nat.mul_comm (2 ^ (a + n)), Nat.mul_comm (2 ^ a)]
    omega
  rw [e, Nat.testBit_two_pow_mul_add _ (Nat.mod_lt _ (Nat.two_pow_pos _))]
  by_cases h : i < a
  · simp [h, Nat.testBit_mod_two_pow]
  · simp only [h, if_false]
    rw [Nat.testBit_two_pow_mul_add _ (Nat.mod_lt _ (Nat.two_pow_pos _))]
    by_cases h2 : i < a + n
    · have h3 : i - a < n := by omega
      simp [h2, h3, Nat.testBit_mod_two_pow]
    · have h3 : ¬ (i - a < n) := by omega
      simp only [h2, h3, if_false]
      rw [Nat.testBit_div_two_pow]
      congr 1
      omega

theorem set_nat {a n x y : Nat} (h : a + n ≤ 64) (hx : x < 2 ^ 64) : ((x &&& (2 ^ 64 - 1 - (2 ^ n - 1) * 2 ^ a)) ||| (y % 2 ^ n * 2 ^ a)) = setS a n x y := by
  apply Nat.eq_of_testBit_eq
  intro i
  rw [setS_testBit, Nat.testBit_or, Nat.testBit_and]
  have hm := mask_lt h
  have e : 2 ^ 64 - 1 - (2 ^ n - 1) * 2 ^ a = 2 ^ 64 - ((2 ^ n - 1) * 2 ^ a + 1) := by omega
  rw [e, Nat.testBit_two_pow_sub_succ hm, Nat.testBit_mul_two_pow, Nat.testBit_mul_two_pow, Nat.testBit_two_pow_sub_one, Nat.testBit_mod_two_pow]
  by_cases hi : i < 64
  · by_cases h1 : i < a
    · have : ¬ (a ≤ i) := by omega
      simp [hi, h1, this]
    · have h1' : a ≤ i := by omega
      by_cases h2 : i < a + n
      · have : i - a < n := by omega
        simp [hi, h1, h1', h2, this]
      · have : ¬ (i - a < n) := by omega
        simp [hi, h1, h1', h2, this]
  · have hxi : x.testBit i = false := Nat.testBit_lt_two_pow (Nat.lt_of_lt_of_le hx (Nat.pow_le_pow_right (by omega) (by omega)))
    have h1 : ¬ i < a := by omega
    have h2 : ¬ i < a + n := by omega
    have h3 : ¬ (i - a < n) := by omega
    simp [hi, hxi, h1, h2, h3]
theorem set_eq (a n : Int) (x y : Nat) (ha : 0 ≤ a) (hn : 1 ≤ n) (h : a + n ≤ 64) (hx : x < 18446744073709551616) (hy : y < 18446744073709551616) :
    bits .or .u64 (bits .andNot .u64 (x : Int) (IntKind.u64.wrap (((2 ^ n.toNat - 1 : Nat) : Int) * 2 ^ a.toNat))) (IntKind.u64.wrap (bits .and .u64 (y : Int) ((2 ^ n.toNat - 1 : Nat) : Int) * 2 ^ a.toNat)) = setS a.toNat n.toNat x y := by
  obtain ⟨p, rfl⟩ := Int.eq_ofNat_of_zero_le ha
  obtain ⟨q, rfl⟩ := Int.eq_ofNat_of_zero_le (show 0 ≤ n by omega)
  have hpq : p + q ≤ 64 := by omega
  simp only [Int.toNat_natCast]
  have h2 : 2 ^ q ≤ 2 ^ 64 := Nat.pow_le_pow_right (by omega) (by omega)
  have hm := mask_lt hpq
  have hf := field_lt hpq y
  have e1 : IntKind.u64.wrap (((2 ^ q - 1 : Nat) : Int) * 2 ^ p) = (((2 ^ q - 1) * 2 ^ p : Nat) : Int) := by
    rw [IntKind.wrap_u64]
    have : (((2 ^ q - 1 : Nat) : Int) * 2 ^ p) = (((2 ^ q - 1) * 2 ^ p : Nat) : Int) := by simp
    rw [this]
    omega
  have e2 : bits .and .u64 (y : Int) ((2 ^ q - 1 : Nat) : Int) = ((y % 2 ^ q : Nat) : Int) := by
    rw [u64_and_nat _ _ hy (by omega), Nat.and_two_pow_sub_one_eq_mod]
  have e3 : IntKind.u64.wrap (((y % 2 ^ q : Nat) : Int) * 2 ^ p) = ((y % 2 ^ q * 2 ^ p : Nat) : Int) := by
    rw [IntKind.wrap_u64]
    have : (((y % 2 ^ q : Nat) : Int) * 2 ^ p) = ((y % 2 ^ q * 2 ^ p : Nat) : Int) := by simp
    rw [this]
    omega
  rw [e1, e2, e3, u64_andNot_nat _ _ hx (by omega)]
  have hs := set_nat (y := y) hpq (show x < 2 ^ 64 by omega)
  rw [u64_or_nat _ _ (Nat.lt_of_le_of_lt (Nat.and_le_left) hx) (by omega), ← hs]

theorem get_up {a n s : Nat} (h : a + n + s = 64) (x : Nat) : x * 2 ^ s % 2 ^ 64 / 2 ^ (64 - n) = getS a n x := by
  have e1 : 2 ^ 64 = 2 ^ (a + n) * 2 ^ s := by rw [← Nat.pow_add, h]
  have e2 : 64 - n = s + a := by omega
  rw [e1, Nat.mul_mod_mul_right, e2, Nat.pow_add (m := s), ← Nat.div_div_eq_div_mul, Nat.mul_div_cancel _ (Nat.two_pow_pos _), getS, Nat.pow_add, Nat.mod_mul_right_div_self]

theorem sgn_eq (a n : Int) (x : Nat) (ha : 0 ≤ a) (hn : 1 ≤ n) (h : a + n ≤ 64) :
    wrap64 (IntKind.u64.wrap ((x : Int) * 2 ^ (64 - a - n).toNat)) / 2 ^ (64 - n).toNat = sgnS a.toNat n.toNat x := by
  obtain ⟨p, rfl⟩ := Int.eq_ofNat_of_zero_le ha
  obtain ⟨q, rfl⟩ := Int.eq_ofNat_of_zero_le (show 0 ≤ n by omega)
  have hs : ((64 : Int) - (p : Int) - (q : Int)).toNat = 64 - p - q := by omega
  have hd : ((64 : Int) - (q : Int)).toNat = 64 - q := by omega
  rw [hs, hd, Int.toNat_natCast, Int.toNat_natCast, IntKind.wrap_u64]
  have hg := get_up (a := p) (n := q) (s := 64 - p - q) (by omega) x
  have e : ((x : Int) * 2 ^ (64 - p - q)) % 18446744073709551616 = ((x * 2 ^ (64 - p - q) % 2 ^ 64 : Nat) : Int) := by
    simp
  rw [e]
  have hX : x * 2 ^ (64 - p - q) % 2 ^ 64 < 2 ^ 64 := Nat.mod_lt _ (Nat.two_pow_pos _)
  generalize x * 2 ^ (64 - p - q) % 2 ^ 64 = X at *
  unfold sgnS
  rw [← hg]
  have e64 : 2 ^ 64 = 2 ^ (64 - q) * 2 ^ q := by rw [← Nat.pow_add]; congr 1; omega
  have e63 : 2 ^ 63 = 2 ^ (64 - q) * 2 ^ (q - 1) := by rw [← Nat.pow_add]; congr 1; omega
  have hpos : 0 < 2 ^ (64 - q) := Nat.two_pow_pos _
  have hiff : X < 2 ^ 63 ↔ X / 2 ^ (64 - q) < 2 ^ (q - 1) := by
    rw [Nat.div_lt_iff_lt_mul hpos, e63, Nat.mul_comm]
  by_cases hlt : X < 2 ^ 63
  · rw [if_pos (hiff.1 hlt)]
    have : wrap64 (X : Int) = X := by unfold wrap64; omega
    rw [this]
    simp
  · rw [if_neg (fun h => hlt (hiff.2 h))]
    have : wrap64 (X : Int) = (X : Int) - 2 ^ 64 := by unfold wrap64; omega
    rw [this]
    have e64' : ((2 : Int) ^ 64) = 2 ^ q * 2 ^ (64 - q) := by
      have := congrArg (Nat.cast (R := Int)) e64
      simp only [Int.natCast_mul, Int.natCast_pow] at this
      rw [Int.mul_comm]
      exact this
    have hne : (2 : Int) ^ (64 - q) ≠ 0 := Int.ne_of_gt (Int.pow_pos (by decide))
    rw [e64', Int.sub_eq_add_neg, ← Int.neg_mul, Int.add_mul_ediv_right _ _ hne]
    simp [Int.sub_eq_add_neg]

theorem setS_lt {a n x y : Nat} (h : a + n ≤ 64) (hx : x < 18446744073709551616) : setS a n x y < 18446744073709551616 := by
  show setS a n x y < 2 ^ 64
  apply Nat.lt_pow_two_of_testBit
  intro i hi
  have hxi : x.testBit i = false := Nat.testBit_lt_two_pow (Nat.lt_of_lt_of_le hx (Nat.pow_le_pow_right (n := 2) (by omega) hi))
  rw [setS_testBit, if_neg (by omega), if_neg (by omega), hxi]

/-- A number as a word. -/
def uw (z : Int) : Nat := (z % 18446744073709551616).toNat
theorem uw_eq (z : Int) : IntKind.u64.wrap z = (uw z : Int) := by rw [IntKind.wrap_u64]; unfold uw; omega
theorem uw_lt (z : Int) : uw z < 18446744073709551616 := by unfold uw; omega

theorem get_set {a n x y : Nat} : getS a n (setS a n x y) = y % 2 ^ n := by
  unfold getS
  apply Nat.eq_of_testBit_eq
  intro i
  rw [Nat.testBit_mod_two_pow, Nat.testBit_div_two_pow, setS_testBit, Nat.testBit_mod_two_pow]
  by_cases h : i < n
  · have h1 : ¬ (i + a < a) := by omega
    have h2 : i + a < a + n := by omega
    simp [h, h1, h2]
  · simp [h]

/-- What is put signed is got signed. -/
theorem sgn_set {a n x : Nat} {z : Int} (hn : 1 ≤ n) (h64 : n ≤ 64) (h1 : -2 ^ (n - 1) ≤ z) (h2 : z < 2 ^ (n - 1)) : sgnS a n (setS a n x (uw z)) = z := by
  unfold sgnS
  rw [get_set]
  have hp : (2 : Int) ^ n = 2 * 2 ^ (n - 1) := by
    rw [← Int.pow_succ']; congr 1; omega
  have hpn : 2 ^ n = 2 * 2 ^ (n - 1) := by
    rw [← Nat.pow_succ']; congr 1; omega
  have hd : (18446744073709551616 : Int) = 2 ^ n * 2 ^ (64 - n) := by
    rw [← Int.pow_add, show n + (64 - n) = 64 from by omega]; rfl
  have hu : ((uw z % 2 ^ n : Nat) : Int) = z % 2 ^ n := by
    unfold uw
    rw [Int.natCast_emod, Int.toNat_of_nonneg (Int.emod_nonneg _ (by decide))]
    rw [hd, Int.natCast_pow]
    exact Int.emod_emod_of_dvd _ ⟨_, rfl⟩
  have hc : ((2 ^ (n - 1) : Nat) : Int) = 2 ^ (n - 1) := by simp
  generalize (2 : Int) ^ (n - 1) = q at *
  have hq : z % 2 ^ n = if 0 ≤ z then z else z + 2 ^ n := by
    split
    · exact Int.emod_eq_of_lt (by omega) (by omega)
    · rw [← Int.add_emod_right]; exact Int.emod_eq_of_lt (by omega) (by omega)
  rw [hq] at hu
  split at hu
  · rw [if_pos (by omega), hu]
  · rw [if_neg (by omega), hu]; omega

/-- The least and the greatest length of a kind's part. -/
def loS (k : Int) : Int := if k = 0 then 1 else if k = 1 then 1 else if k = 2 then 2 else 64
def hiS (k : Int) : Int := if k = 0 then 1 else if k = 1 then 63 else 64

theorem lo_bd (k : Int) : 1 ≤ loS k ∧ loS k ≤ 64 := by unfold loS; repeat' split <;> omega
theorem hi_bd (k : Int) : 1 ≤ hiS k ∧ hiS k ≤ 64 := by unfold hiS; repeat' split <;> omega

/-- Where parts begin, from a place on; or the first error's number. -/
def placesGo : List (Int × Int) → Nat → Nat → List (Nat × Nat) → Except Int (List (Nat × Nat) × Nat)
  | [], at_, _, acc => .ok (acc, at_ + 1)
  | (k, n) :: ps, at_, bit, acc =>
    if k < 0 ∨ 4 ≤ k then .error 1
    else if n < loS k ∨ hiS k < n then .error 10
    else if 64 - (bit : Int) < n then
      (if 63 ≤ at_ then .error 12 else placesGo ps (at_ + 1) n.toNat (acc ++ [(at_ + 1, 0)]))
    else placesGo ps at_ (bit + n.toNat) (acc ++ [(at_, bit)])

/-- Places: where parts begin, and how many words there are. -/
def placesS (ps : List (Int × Int)) : Except Int (List (Nat × Nat) × Nat) :=
  if ps.length = 0 ∨ 256 < ps.length then .error 12 else placesGo ps 0 0 []

section
variable {k n : Int} {ps : List (Int × Int)} {at_ bit : Nat} {acc : List (Nat × Nat)}
theorem go_kind (h : k < 0 ∨ 4 ≤ k) : placesGo ((k, n) :: ps) at_ bit acc = .error 1 := by rw [placesGo, if_pos h]
theorem go_len (h : ¬ (k < 0 ∨ 4 ≤ k)) (h2 : n < loS k ∨ hiS k < n) : placesGo ((k, n) :: ps) at_ bit acc = .error 10 := by rw [placesGo, if_neg h, if_pos h2]
theorem go_full (h : ¬ (k < 0 ∨ 4 ≤ k)) (h2 : ¬ (n < loS k ∨ hiS k < n)) (h3 : 64 - (bit : Int) < n) (h4 : 63 ≤ at_) : placesGo ((k, n) :: ps) at_ bit acc = .error 12 := by
  rw [placesGo, if_neg h, if_neg h2, if_pos h3, if_pos h4]
theorem go_next (h : ¬ (k < 0 ∨ 4 ≤ k)) (h2 : ¬ (n < loS k ∨ hiS k < n)) (h3 : 64 - (bit : Int) < n) (h4 : ¬ 63 ≤ at_) :
    placesGo ((k, n) :: ps) at_ bit acc = placesGo ps (at_ + 1) n.toNat (acc ++ [(at_ + 1, 0)]) := by
  rw [placesGo, if_neg h, if_neg h2, if_pos h3, if_neg h4]
theorem go_here (h : ¬ (k < 0 ∨ 4 ≤ k)) (h2 : ¬ (n < loS k ∨ hiS k < n)) (h3 : ¬ 64 - (bit : Int) < n) :
    placesGo ((k, n) :: ps) at_ bit acc = placesGo ps at_ (bit + n.toNat) (acc ++ [(at_, bit)]) := by
  rw [placesGo, if_neg h, if_neg h2, if_neg h3]
end

end Go.Proofs.Ytieiamefominbaa
