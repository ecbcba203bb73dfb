/-
  Plain facts on parts of records, and fields of words: no program in sight. Conditions: none. The walk of codec.Places, and of what it calls: it computes 'placesS'. Conditions: a slice of parts (up to 300).
-/
import Derived.WalkKit
import Derived.WalkLawsBesides
import Derived.Test.YtpilfhjlfbjloaaGreatDoorRows
import Derived.Test.YtpilfhjlfbjloaaGreatDoorLib
import Derived.Deep.RegionHeld3
namespace Go.Proofs.YtpilfhjlfbjloaaGreatDoor
open Go.RowKit

/-- A field's number: bits a .. a+n-1. -/
def getS (a n x : Nat) : Nat := x / 2 ^ a % 2 ^ n
/-- The same, the highest bit of which counts below 0. -/
def sgnS (a n x : Nat) : Int := if getS a n x < 2 ^ (n - 1) then (getS a n x : Int) else (getS a n x : Int) - 2 ^ n

theorem max_eq (n : Int) (h1 : 1 ≤ n) (h2 : n ≤ 64) : (18446744073709551615 : Int) / 2 ^ (64 - n).toNat = 2 ^ n.toNat - 1 := by
  obtain ⟨k, rfl⟩ := Int.eq_ofNat_of_zero_le (show 0 ≤ n by omega)
  have h : ∀ k : Nat, k ≤ 64 → (18446744073709551615 : Int) / 2 ^ ((64 : Int) - (k : Int)).toNat = 2 ^ ((k : Int)).toNat - 1 := by decide +kernel
  exact h k (by omega)

theorem pow_sub_cast (k : Nat) : ((2 ^ k - 1 : Nat) : Int) = 2 ^ k - 1 := by
  have h : 1 ≤ 2 ^ k := Nat.one_le_two_pow
  rw [Int.natCast_sub h]
  simp

theorem get_eq (a n : Int) (x : Nat) (ha : 0 ≤ a) (hn : 1 ≤ n) (h : a + n ≤ 64) (hx : x < 18446744073709551616) :
    bits .and .u64 ((x : Int) / 2 ^ a.toNat) (((2 ^ n.toNat - 1 : Nat)) : Int) = (getS a.toNat n.toNat x : Int) := by
  obtain ⟨p, rfl⟩ := Int.eq_ofNat_of_zero_le ha
  obtain ⟨q, rfl⟩ := Int.eq_ofNat_of_zero_le (show 0 ≤ n by omega)
  have e1 : ((x : Int) / 2 ^ ((p : Int)).toNat) = ((x / 2 ^ p : Nat) : Int) := by simp
  have h2 : 2 ^ q ≤ 2 ^ 64 := Nat.pow_le_pow_right (by omega) (by omega)
  rw [e1, Int.toNat_natCast, u64_and_nat _ _ (Nat.lt_of_le_of_lt (Nat.div_le_self _ _) hx) (by omega)]
  rw [Nat.and_two_pow_sub_one_eq_mod]
  simp [getS]

/-- A word with the lowest bits of a number in a field. -/
def setS (a n x y : Nat) : Nat := x % 2 ^ a + y % 2 ^ n * 2 ^ a + x / 2 ^ (a + n) * 2 ^ (a + n)

theorem mask_lt {a n : Nat} (h : a + n ≤ 64) : (2 ^ n - 1) * 2 ^ a < 2 ^ 64 := by
  have h1 : 2 ^ n * 2 ^ a = 2 ^ (a + n) := by rw [← Nat.pow_add, Nat.add_comm]
  have h2 : 2 ^ (a + n) ≤ 2 ^ 64 := Nat.pow_le_pow_right (by omega) h
  have h3 : 0 < 2 ^ a := Nat.two_pow_pos _
  rw [Nat.sub_mul, h1]
  omega

theorem field_lt {a n : Nat} (h : a + n ≤ 64) (y : Nat) : y % 2 ^ n * 2 ^ a < 2 ^ 64 := by
  have h1 : 2 ^ n * 2 ^ a = 2 ^ (a + n) := by rw [← Nat.pow_add, Nat.add_comm]
  have h2 : 2 ^ (a + n) ≤ 2 ^ 64 := Nat.pow_le_pow_right (by omega) h
  have h3 : y % 2 ^ n < 2 ^ n := Nat.mod_lt _ (Nat.two_pow_pos _)
  have h4 : y % 2 ^ n * 2 ^ a < 2 ^ n * 2 ^ a := Nat.mul_lt_mul_of_pos_right h3 (Nat.two_pow_pos _)
  omega

theorem setS_testBit {a n x y i : Nat} : (setS a n x y).testBit i = if i < a then x.testBit i else if i < a + n then y.testBit (i - a) else x.testBit i := by
  have e : setS a n x y = 2 ^ a * (2 ^ n * (x / 2 ^ (a + n)) + y % 2 ^ n) + x % 2 ^ a := by
    unfold setS
    rw [Nat.mul_add, ← Nat.mul_assoc, ← Nat.pow_add, Nat.mul_comm (2 ^ (a + n)), Nat.mul_comm (2 ^ a)]
    omega
  rw [e, Nat.testBit_two_pow_mul_add _ (Nat.mod_lt _ (Nat.two_pow_pos _))]
  by_cases h : i < a
  · simp [h, Nat.testBit_mod_two_pow]
  · simp only [h, if_false]
    rw [Nat.testBit_two_pow_mul_add _ (Nat.mod_lt _ (Nat.two_pow_pos _))]
    by_cases h2 : i < a + n
    · have h3 : i - a < n := by omega
      simp [h2, h3, Nat.testBit_mod_two_pow]
    · have h3 : ¬ (i - a < n) := by omega
      simp only [h2, h3, if_false]
      rw [Nat.testBit_div_two_pow]
      congr 1
      omega

theorem set_nat {a n x y : Nat} (h : a + n ≤ 64) (hx : x < 2 ^ 64) : ((x &&& (2 ^ 64 - 1 - (2 ^ n - 1) * 2 ^ a)) ||| (y % 2 ^ n * 2 ^ a)) = setS a n x y := by
  apply Nat.eq_of_testBit_eq
  intro i
  rw [setS_testBit, Nat.testBit_or, Nat.testBit_and]
  have hm := mask_lt h
  have e : 2 ^ 64 - 1 - (2 ^ n - 1) * 2 ^ a = 2 ^ 64 - ((2 ^ n - 1) * 2 ^ a + 1) := by omega
  rw [e, Nat.testBit_two_pow_sub_succ hm, Nat.testBit_mul_two_pow, Nat.testBit_mul_two_pow, Nat.testBit_two_pow_sub_one, Nat.testBit_mod_two_pow]
  by_cases hi : i < 64
  · by_cases h1 : i < a
    · have : ¬ (a ≤ i) := by omega
      simp [hi, h1, this]
    · have h1' : a ≤ i := by omega
      by_cases h2 : i < a + n
      · have : i - a < n := by omega
        simp [hi, h1, h1', h2, this]
      · have : ¬ (i - a < n) := by omega
        simp [hi, h1, h1', h2, this]
  · have hxi : x.testBit i = false := Nat.testBit_lt_two_pow (Nat.lt_of_lt_of_le hx (Nat.pow_le_pow_right (by omega) (by omega)))
    have h1 : ¬ i < a := by omega
    have h2 : ¬ i < a + n := by omega
    have h3 : ¬ (i - a < n) := by omega
    simp [hi, hxi, h1, h2, h3]
theorem set_eq (a n : Int) (x y : Nat) (ha : 0 ≤ a) (hn : 1 ≤ n) (h : a + n ≤ 64) (hx : x < 18446744073709551616) (hy : y < 18446744073709551616) :
    bits .or .u64 (bits .andNot .u64 (x : Int) (IntKind.u64.wrap (((2 ^ n.toNat - 1 : Nat) : Int) * 2 ^ a.toNat))) (IntKind.u64.wrap (bits .and .u64 (y : Int) ((2 ^ n.toNat - 1 : Nat) : Int) * 2 ^ a.toNat)) = setS a.toNat n.toNat x y := by
  obtain ⟨p, rfl⟩ := Int.eq_ofNat_of_zero_le ha
  obtain ⟨q, rfl⟩ := Int.eq_ofNat_of_zero_le (show 0 ≤ n by omega)
  have hpq : p + q ≤ 64 := by omega
  simp only [Int.toNat_natCast]
  have h2 : 2 ^ q ≤ 2 ^ 64 := Nat.pow_le_pow_right (by omega) (by omega)
  have hm := mask_lt hpq
  have hf := field_lt hpq y
  have e1 : IntKind.u64.wrap (((2 ^ q - 1 : Nat) : Int) * 2 ^ p) = (((2 ^ q - 1) * 2 ^ p : Nat) : Int) := by
    rw [IntKind.wrap_u64]
    have : (((2 ^ q - 1 : Nat) : Int) * 2 ^ p) = (((2 ^ q - 1) * 2 ^ p : Nat) : Int) := by simp
    rw [this]
    omega
  have e2 : bits .and .u64 (y : Int) ((2 ^ q - 1 : Nat) : Int) = ((y % 2 ^ q : Nat) : Int) := by
    rw [u64_and_nat _ _ hy (by omega), Nat.and_two_pow_sub_one_eq_mod]
  have e3 : IntKind.u64.wrap (((y % 2 ^ q : Nat) : Int) * 2 ^ p) = ((y % 2 ^ q * 2 ^ p : Nat) : Int) := by
    rw [IntKind.wrap_u64]
    have : (((y % 2 ^ q : Nat) : Int) * 2 ^ p) = ((y % 2 ^ q * 2 ^ p : Nat) : Int) := by simp
    rw [this]
    omega
  rw [e1, e2, e3, u64_andNot_nat _ _ hx (by omega)]
  have hs := set_nat (y := y) hpq (show x < 2 ^ 64 by omega)
  rw [u64_or_nat _ _ (Nat.lt_of_le_of_lt (Nat.and_le_left) hx) (by omega), ← hs]

theorem get_up {a n s : Nat} (h : a + n + s = 64) (x : Nat) : x * 2 ^ s % 2 ^ 64 / 2 ^ (64 - n) = getS a n x := by
  have e1 : 2 ^ 64 = 2 ^ (a + n) * 2 ^ s := by rw [← Nat.pow_add, h]
  have e2 : 64 - n = s + a := by omega
  rw [e1, Nat.mul_mod_mul_right, e2, Nat.pow_add (m := s), ← Nat.div_div_eq_div_mul, Nat.mul_div_cancel _ (Nat.two_pow_pos _), getS, Nat.pow_add, Nat.mod_mul_right_div_self]

theorem sgn_eq (a n : Int) (x : Nat) (ha : 0 ≤ a) (hn : 1 ≤ n) (h : a + n ≤ 64) :
    wrap64 (IntKind.u64.wrap ((x : Int) * 2 ^ (64 - a - n).toNat)) / 2 ^ (64 - n).toNat = sgnS a.toNat n.toNat x := by
  obtain ⟨p, rfl⟩ := Int.eq_ofNat_of_zero_le ha
  obtain ⟨q, rfl⟩ := Int.eq_ofNat_of_zero_le (show 0 ≤ n by omega)
  have hs : ((64 : Int) - (p : Int) - (q : Int)).toNat = 64 - p - q := by omega
  have hd : ((64 : Int) - (q : Int)).toNat = 64 - q := by omega
  rw [hs, hd, Int.toNat_natCast, Int.toNat_natCast, IntKind.wrap_u64]
  have hg := get_up (a := p) (n := q) (s := 64 - p - q) (by omega) x
  have e : ((x : Int) * 2 ^ (64 - p - q)) % 18446744073709551616 = ((x * 2 ^ (64 - p - q) % 2 ^ 64 : Nat) : Int) := by
    simp
  rw [e]
  have hX : x * 2 ^ (64 - p - q) % 2 ^ 64 < 2 ^ 64 := Nat.mod_lt _ (Nat.two_pow_pos _)
  generalize x * 2 ^ (64 - p - q) % 2 ^ 64 = X at *
  unfold sgnS
  rw [← hg]
  have e64 : 2 ^ 64 = 2 ^ (64 - q) * 2 ^ q := by rw [← Nat.pow_add]; congr 1; omega
  have e63 : 2 ^ 63 = 2 ^ (64 - q) * 2 ^ (q - 1) := by rw [← Nat.pow_add]; congr 1; omega
  have hpos : 0 < 2 ^ (64 - q) := Nat.two_pow_pos _
  have hiff : X < 2 ^ 63 ↔ X / 2 ^ (64 - q) < 2 ^ (q - 1) := by
    rw [Nat.div_lt_iff_lt_mul hpos, e63, Nat.mul_comm]
  by_cases hlt : X < 2 ^ 63
  · rw [if_pos (hiff.1 hlt)]
    have : wrap64 (X : Int) = X := by unfold wrap64; omega
    rw [this]
    simp
  · rw [if_neg (fun h => hlt (hiff.2 h))]
    have : wrap64 (X : Int) = (X : Int) - 2 ^ 64 := by unfold wrap64; omega
    rw [this]
    have e64' : ((2 : Int) ^ 64) = 2 ^ q * 2 ^ (64 - q) := by
      have := congrArg (Nat.cast (R := Int)) e64
      simp only [Int.natCast_mul, Int.natCast_pow] at this
      rw [Int.mul_comm]
      exact this
    have hne : (2 : Int) ^ (64 - q) ≠ 0 := Int.ne_of_gt (Int.pow_pos (by decide))
    rw [e64', Int.sub_eq_add_neg, ← Int.neg_mul, Int.add_mul_ediv_right _ _ hne]
    simp [Int.sub_eq_add_neg]

theorem setS_lt {a n x y : Nat} (h : a + n ≤ 64) (hx : x < 18446744073709551616) : setS a n x y < 18446744073709551616 := by
  show setS a n x y < 2 ^ 64
  apply Nat.lt_pow_two_of_testBit
  intro i hi
  have hxi : x.testBit i = false := Nat.testBit_lt_two_pow (Nat.lt_of_lt_of_le hx (Nat.pow_le_pow_right (n := 2) (by omega) hi))
  rw [setS_testBit, if_neg (by omega), if_neg (by omega), hxi]

/-- A number as a word. -/
def uw (z : Int) : Nat := (z % 18446744073709551616).toNat
theorem uw_eq (z : Int) : IntKind.u64.wrap z = (uw z : Int) := by rw [IntKind.wrap_u64]; unfold uw; omega
theorem uw_lt (z : Int) : uw z < 18446744073709551616 := by unfold uw; omega

theorem pget_set {a n x y : Nat} : getS a n (setS a n x y) = y % 2 ^ n := by
  unfold getS
  apply Nat.eq_of_testBit_eq
  intro i
  rw [Nat.testBit_mod_two_pow, Nat.testBit_div_two_pow, setS_testBit, Nat.testBit_mod_two_pow]
  by_cases h : i < n
  · have h1 : ¬ (i + a < a) := by omega
    have h2 : i + a < a + n := by omega
    simp [h, h1, h2]
  · simp [h]

/-- What is put signed is got signed. -/
theorem sgn_set {a n x : Nat} {z : Int} (hn : 1 ≤ n) (h64 : n ≤ 64) (h1 : -2 ^ (n - 1) ≤ z) (h2 : z < 2 ^ (n - 1)) : sgnS a n (setS a n x (uw z)) = z := by
  unfold sgnS
  rw [pget_set]
  have hp : (2 : Int) ^ n = 2 * 2 ^ (n - 1) := by
    rw [← Int.pow_succ']; congr 1; omega
  have hpn : 2 ^ n = 2 * 2 ^ (n - 1) := by
    rw [← Nat.pow_succ']; congr 1; omega
  have hd : (18446744073709551616 : Int) = 2 ^ n * 2 ^ (64 - n) := by
    rw [← Int.pow_add, show n + (64 - n) = 64 from by omega]; rfl
  have hu : ((uw z % 2 ^ n : Nat) : Int) = z % 2 ^ n := by
    unfold uw
    rw [Int.natCast_emod, Int.toNat_of_nonneg (Int.emod_nonneg _ (by decide))]
    rw [hd, Int.natCast_pow]
    exact Int.emod_emod_of_dvd _ ⟨_, rfl⟩
  have hc : ((2 ^ (n - 1) : Nat) : Int) = 2 ^ (n - 1) := by simp
  generalize (2 : Int) ^ (n - 1) = q at *
  have hq : z % 2 ^ n = if 0 ≤ z then z else z + 2 ^ n := by
    split
    · exact Int.emod_eq_of_lt (by omega) (by omega)
    · rw [← Int.add_emod_right]; exact Int.emod_eq_of_lt (by omega) (by omega)
  rw [hq] at hu
  split at hu
  · rw [if_pos (by omega), hu]
  · rw [if_neg (by omega), hu]; omega

/-- The least and the greatest length of a kind's part. -/
def loS (k : Int) : Int := if k = 0 then 1 else if k = 1 then 1 else if k = 2 then 2 else 64
def hiS (k : Int) : Int := if k = 0 then 1 else if k = 1 then 63 else 64

theorem lo_bd (k : Int) : 1 ≤ loS k ∧ loS k ≤ 64 := by unfold loS; repeat' split <;> omega
theorem hi_bd (k : Int) : 1 ≤ hiS k ∧ hiS k ≤ 64 := by unfold hiS; repeat' split <;> omega

/-- Where parts begin, from a place on; or the first error's number. -/
def placesGo : List (Int × Int) → Nat → Nat → List (Nat × Nat) → Except Int (List (Nat × Nat) × Nat)
  | [], at_, _, acc => .ok (acc, at_ + 1)
  | (k, n) :: ps, at_, bit, acc =>
    if k < 0 ∨ 4 ≤ k then .error 1
    else if n < loS k ∨ hiS k < n then .error 10
    else if 64 - (bit : Int) < n then
      (if 63 ≤ at_ then .error 12 else placesGo ps (at_ + 1) n.toNat (acc ++ [(at_ + 1, 0)]))
    else placesGo ps at_ (bit + n.toNat) (acc ++ [(at_, bit)])

/-- Places: where parts begin, and how many words there are. -/
def placesS (ps : List (Int × Int)) : Except Int (List (Nat × Nat) × Nat) :=
  if ps.length = 0 ∨ 256 < ps.length then .error 12 else placesGo ps 0 0 []

section
variable {k n : Int} {ps : List (Int × Int)} {at_ bit : Nat} {acc : List (Nat × Nat)}
theorem go_kind (h : k < 0 ∨ 4 ≤ k) : placesGo ((k, n) :: ps) at_ bit acc = .error 1 := by rw [placesGo, if_pos h]
theorem go_len (h : ¬ (k < 0 ∨ 4 ≤ k)) (h2 : n < loS k ∨ hiS k < n) : placesGo ((k, n) :: ps) at_ bit acc = .error 10 := by rw [placesGo, if_neg h, if_pos h2]
theorem go_full (h : ¬ (k < 0 ∨ 4 ≤ k)) (h2 : ¬ (n < loS k ∨ hiS k < n)) (h3 : 64 - (bit : Int) < n) (h4 : 63 ≤ at_) : placesGo ((k, n) :: ps) at_ bit acc = .error 12 := by
  rw [placesGo, if_neg h, if_neg h2, if_pos h3, if_pos h4]
theorem go_next (h : ¬ (k < 0 ∨ 4 ≤ k)) (h2 : ¬ (n < loS k ∨ hiS k < n)) (h3 : 64 - (bit : Int) < n) (h4 : ¬ 63 ≤ at_) :
    placesGo ((k, n) :: ps) at_ bit acc = placesGo ps (at_ + 1) n.toNat (acc ++ [(at_ + 1, 0)]) := by
  rw [placesGo, if_neg h, if_neg h2, if_pos h3, if_neg h4]
theorem go_here (h : ¬ (k < 0 ∨ 4 ≤ k)) (h2 : ¬ (n < loS k ∨ hiS k < n)) (h3 : ¬ 64 - (bit : Int) < n) :
    placesGo ((k, n) :: ps) at_ bit acc = placesGo ps at_ (bit + n.toNat) (acc ++ [(at_, bit)]) := by
  rw [placesGo, if_neg h, if_neg h2, if_neg h3]
end

end Go.Proofs.YtpilfhjlfbjloaaGreatDoor

namespace Go.Proofs.YtpilfhjlfbjloaaGreatDoor
open Go.RowKit

/-- The cells of parts. -/
def flatP (ps : List (Int × Int)) : List Value := ps.flatMap fun p => [.int .i64 p.1, .int .i64 p.2]
/-- The cells of places. -/
def flatA (l : List (Nat × Nat)) : List Value := l.flatMap fun p => [.int .i64 p.1, .int .i64 p.2]

def bsFlag : ByteArray := ⟨#[102, 108, 97, 103]⟩
def bsCount : ByteArray := ⟨#[99, 111, 117, 110, 116]⟩
def bsWhole : ByteArray := ⟨#[119, 104, 111, 108, 101]⟩
def bsPoint : ByteArray := ⟨#[112, 111, 105, 110, 116]⟩

set_option maxHeartbeats 400000 in
theorem entries_any (w : World) :
    Calls Tryz.prog 127 #[] w fun e w' => e = .returned (.agg #[.string bsFlag, .int .i64 1, .int .i64 1, .string bsCount, .int .i64 1, .int .i64 63, .string bsWhole, .int .i64 2, .int .i64 64, .string bsPoint, .int .i64 64, .int .i64 64]) ∧ Below w.heap.size w w' := by
  go_enter Tryz.func127, Tryz.ntmps127
  go_wp2
  exact bodyPost_ret (v := .agg #[.string bsFlag, .int .i64 1, .int .i64 1, .string bsCount, .int .i64 1, .int .i64 63, .string bsWhole, .int .i64 2, .int .i64 64, .string bsPoint, .int .i64 64, .int .i64 64]) (by simp [results, Tryz.results127, go_sem, bsFlag, bsCount, bsWhole, bsPoint]) rfl ⟨rfl, (Below.refl _ _).alloc (Nat.le_refl _) _⟩

def pnameS (k : Int) : ByteArray := if k = 0 then bsFlag else if k = 1 then bsCount else if k = 2 then bsWhole else bsPoint

/-- The table's row of a kind. -/
theorem entry_at (k : Int) (h0 : 0 ≤ k) (h4 : k < 4) (w : World) :
    (Instr.index 210 (.agg #[.string bsFlag, .int .i64 1, .int .i64 1, .string bsCount, .int .i64 1, .int .i64 63, .string bsWhole, .int .i64 2, .int .i64 64, .string bsPoint, .int .i64 64, .int .i64 64]) (.int .i64 k)).run Tryz.prog w
      = .ok (.agg #[.string (pnameS k), .int .i64 (loS k), .int .i64 (hiS k)]) w := by
  obtain rfl | rfl | rfl | rfl : k = 0 ∨ k = 1 ∨ k = 2 ∨ k = 3 := by omega
  · kernel_rfl
  · kernel_rfl
  · kernel_rfl
  · kernel_rfl

theorem entry_lo (s : ByteArray) (a b : Int) (w : World) : (Instr.field 209 (.agg #[.string s, .int .i64 a, .int .i64 b]) 1).run Tryz.prog w = .ok (.int .i64 a) w := by kernel_rfl
theorem entry_hi (s : ByteArray) (a b : Int) (w : World) : (Instr.field 209 (.agg #[.string s, .int .i64 a, .int .i64 b]) 2).run Tryz.prog w = .ok (.int .i64 b) w := by kernel_rfl
theorem entry_name (s : ByteArray) (a b : Int) (w : World) : (Instr.field 209 (.agg #[.string s, .int .i64 a, .int .i64 b]) 0).run Tryz.prog w = .ok (.string s) w := by kernel_rfl

/-- What Places tells. -/
def PlacesPost (ps : List (Int × Int)) (w : World) (e : Ending) (w' : World) : Prop :=
  Below w.heap.size w w' ∧
  match placesS ps with
  | .error c => e = .returned (.tuple #[.slice none 0 0, .int .i64 0, .int .i64 c])
  | .ok (acc, n) => ∃ v, e = .returned (.tuple #[v, .int .i64 n, .int .i64 0]) ∧ w'.ownsRow w.heap.size 185 2 v acc.length (flatA acc)

theorem flatP_at (ps : List (Int × Int)) (k : Nat) (h : k < ps.length) : (flatP ps)[k * 2]? = some (.int .i64 ps[k].1) ∧ (flatP ps)[k * 2 + 1]? = some (.int .i64 ps[k].2) := by
  induction ps generalizing k with
  | nil => simp at h
  | cons p ps ih =>
    cases k with
    | zero => simp [flatP]
    | succ k =>
      have := ih k (by simpa using h)
      have e : flatP (p :: ps) = .int .i64 p.1 :: .int .i64 p.2 :: flatP ps := by simp [flatP]
      rw [e, show (k + 1) * 2 = k * 2 + 2 from by omega, show k * 2 + 2 + 1 = (k * 2 + 1) + 2 from by omega]
      simpa using this

theorem Tryz.infoArr2 : (Tryz.prog.info? 185).map (fun i => (i.zero, i.size, i.bytes)) = some (some (.agg #[.int .i64 0, .int .i64 0]), 2, 16) := by kernel_rfl

theorem flatA_snoc (acc : List (Nat × Nat)) (a t : Nat) : flatA (acc ++ [(a, t)]) = flatA acc ++ [.int .i64 a, .int .i64 t] := by simp [flatA]

theorem places_err {ps : List (Int × Int)} {w w' : World} {c : Int} (h : placesS ps = .error c) (hb : Below w.heap.size w w') : PlacesPost ps w (.returned (.tuple #[.slice none 0 0, .int .i64 0, .int .i64 c])) w' :=
  ⟨hb, by rw [h]⟩

set_option maxRecDepth 100000 in
set_option maxHeartbeats 2000000 in
theorem places_any (ps : List (Int × Int)) (v : Value) (w : World) (hr : Rd w v 2 ps.length (flatP ps)) (hlen : ps.length ≤ 300) :
    Calls Tryz.prog 104 #[v] w (PlacesPost ps w) := by
  obtain ⟨i0, hi, hz0, hz1, hz2⟩ := info_parts Tryz.infoArr2
  by_cases h0 : ps.length = 0 ∨ 256 < ps.length
  · obtain ⟨A, c, rfl, hnc, hcm, -⟩ := hr.shape
    have hres : placesS ps = .error 12 := by rw [placesS, if_pos h0]
    have Hres := hide hres
    clear hres hr
    generalize ps.length = n at *
    rcases h0 with rfl | h0
    · go_enter Tryz.func104, Tryz.ntmps104
      go_wp2
      go_step3
      go_wp2
      try rw [Exit.noGoto_ret]
      go_ret3
      exact ⟨Below.refl _ _, by rw [Hres.out]; rfl⟩
    · have hb : ((n : Int) == 0) = false := by simp; omega
      go_enter Tryz.func104, Tryz.ntmps104
      go_wp2
      go_step3
      go_wp2
      try rw [Exit.noGoto_ret]
      go_ret3
      exact ⟨Below.refl _ _, by rw [Hres.out]; rfl⟩
  · have hpos : 0 < ps.length := by omega
    have hres : placesS ps = placesGo ps 0 0 [] := by rw [placesS, if_neg h0]
    have Hres := hide hres
    clear hres
    have h256 : ps.length ≤ 256 := by omega
    clear h0 hlen
    obtain ⟨n, hn⟩ : ∃ n, ps.length = n := ⟨_, rfl⟩
    rw [hn] at hr hpos h256
    have Hn := hide hn
    clear hn
    obtain ⟨b, o, c, rfl, hnc, hcm, hb, hc⟩ := hr.open_ hpos
    have hn0 : ((n : Int) == 0) = false := by simp; omega
    have HC := hide hc
    clear hc hr
    go_enter Tryz.func104, Tryz.ntmps104
    go_wp2_with fail
    go_step3
    go_wp2_with (first
      | (at_make; go_must (refine wpList_make_own _ rfl (.const (.int .i64 0)) (.tmp 20) 180 rfl w.heap.size 185 i0 _ 2 Tryz.underlying180 hi hz0 hz1 .i64 .i64 n n rfl rfl rfl (by rw [hz2]; omega) (by unfold maxLen; omega) (Nat.le_refl _) ?_); intro w1 hown1 hgr1))
    have hbel1 : Below w.heap.size w w1 := (Below.refl _ _).grown hgr1 (Nat.le_refl _) (by simp)
    clear hgr1
    obtain ⟨v1, hv1⟩ : ∃ v1, v1 = Value.slice (some ⟨w.heap.size, 0, none⟩) 0 n := ⟨_, rfl⟩
    rw [← hv1] at hown1
    rw [← hv1]
    clear hv1
    go_step3
    go_wp2_with fail
    go_loopw [5, 6, 7, 8, 24] (fun e6 v at_ bit i wr => ∃ (k a t : Nat) (acc : List (Nat × Nat)), k ≤ n ∧ i = .int .i64 k ∧ e6 = .int .i64 0 ∧ at_ = .int .i64 a ∧ bit = .int .i64 t ∧ a ≤ 63 ∧ t ≤ 64 ∧ acc.length = k ∧
        Hid (placesGo (ps.drop k) a t acc = placesGo ps 0 0 []) ∧ wr.ownsRow w.heap.size 185 2 v k (flatA acc) ∧ Below w.heap.size w wr) (fun _ _ _ _ i _ => n - (intOf i).toNat)
    case atStart => exact ⟨0, 0, 0, [], Nat.zero_le _, rfl, rfl, rfl, rfl, by omega, by omega, rfl, hide rfl, hown1, hbel1⟩
    case round =>
      obtain ⟨k, a, t, acc, hk, rfl, rfl, rfl, rfl, ha, ht, hacc, Hgo, hown, hbel⟩ := hrel
      clear hown1 hbel1
      by_cases hlt : k < n
      · have hkl : k < ps.length := by have := Hn.out; omega
        obtain ⟨kd, hkd⟩ : ∃ q, q = ps[k].1 := ⟨_, rfl⟩
        obtain ⟨ln, hln⟩ : ∃ q, q = ps[k].2 := ⟨_, rfl⟩
        obtain ⟨hx0, hx1⟩ := flatP_at ps k hkl
        rw [← hkd] at hx0
        rw [← hln] at hx1
        have hc0 := (hbel.cell (p := ⟨b, o + k * 2, none⟩) hb).trans (HC.out _ _ hx0)
        have hc1 := (hbel.cell (p := ⟨b, o + k * 2 + 1, none⟩) hb).trans (HC.out _ _ hx1)
        have hdrop : ps.drop k = (kd, ln) :: ps.drop (k + 1) := by rw [List.drop_eq_getElem_cons hkl, hkd, hln]
        rw [hdrop] at Hgo
        clear hdrop hx0 hx1 hkd hln hkl HC
        by_cases hk0 : kd < 0
        · go_wp2
          try rw [Exit.noGoto_ret]
          go_ret3
          have hres := Hres.out
          rw [← Hgo.out, go_kind (.inl hk0)] at hres
          exact places_err hres (hbel.alloc hbel.size _)
        by_cases hk4 : 4 ≤ kd
        · go_wp2
          try rw [Exit.noGoto_ret]
          go_ret3
          have hres := Hres.out
          rw [← Hgo.out, go_kind (.inr hk4)] at hres
          exact places_err hres (hbel.alloc hbel.size _)
        have hkb : 0 ≤ kd ∧ kd < 4 := by omega
        have hkok : ¬ (kd < 0 ∨ 4 ≤ kd) := by omega
        have Hkok := hide hkok
        clear hkok
        have hidx := entry_at kd hkb.1 hkb.2
        have hflo := entry_lo
        have hfhi := entry_hi
        go_wp2_with fail
        by_cases hlo : ln < loS kd
        · have hlo' : decide (ln < loS kd) = true := by simpa using hlo
          refine wp_region_ext (by kernel_rfl) (by kernel_rfl) ?_
          repeat (first
            | go_big_quiet_skip
            | (go_big_quiet_want
               first
                 | (apply quiet_val
                    · intro wq hq
                      have hcq := hq.cells
                      have hzq := hq.lift
                      go_simp
                      try go_bits
                      first | done | with_reducible rfl
                    (try simp only [Act.put, List.setIfInBounds_toArray, List.set_cons_zero, List.set_cons_succ])
                    go_big_quiet_on)
                 | (apply quiet_call
                    · intro wq hq
                      have hcq := hq.cells
                      have hzq := hq.lift
                      go_simp
                      first
                        | (go_at_call 127; exact (entries_any _).mono fun e w' hp => ⟨hp.1, hq.call hp.2⟩)
                    (try simp only [Act.put, List.setIfInBounds_toArray, List.set_cons_zero, List.set_cons_succ])
                    go_big_quiet_on)))
          refine wpQuiet_nil ?_
          intro w2 hz
          have hs0 : w2.cell? ⟨wr.heap.size, 0, none⟩ = some (.int .i64 kd) := (hz.cells wr.heap.size 0 (by simp)).trans (by simp [go_sem])
          have hs1 : w2.cell? ⟨wr.heap.size, 1, none⟩ = some (.int .i64 ln) := (hz.cells wr.heap.size 1 (by simp)).trans (by simp [go_sem])
          have hbw : Below wr.heap.size wr w2 := ((Below.refl _ _).alloc (Nat.le_refl _) _).trans (hz.below.mono (by simp))
          clear hz
          have hbel3 : Below w.heap.size w w2 := hbel.trans (hbw.mono hbel.size)
          go_wp2
          try rw [Exit.noGoto_ret]
          go_ret3
          have hres := Hres.out
          rw [← Hgo.out, go_len Hkok.out (.inl hlo)] at hres
          exact places_err hres hbel3
        by_cases hhi : hiS kd < ln
        · have hlo' : decide (ln < loS kd) = false := by simpa using hlo
          have hhi' : decide (hiS kd < ln) = true := by simpa using hhi
          refine wp_region_ext (by kernel_rfl) (by kernel_rfl) ?_
          repeat (first
            | go_big_quiet_skip
            | (go_big_quiet_want
               first
                 | (apply quiet_val
                    · intro wq hq
                      have hcq := hq.cells
                      have hzq := hq.lift
                      go_simp
                      try go_bits
                      first | done | with_reducible rfl
                    (try simp only [Act.put, List.setIfInBounds_toArray, List.set_cons_zero, List.set_cons_succ])
                    go_big_quiet_on)
                 | (apply quiet_call
                    · intro wq hq
                      have hcq := hq.cells
                      have hzq := hq.lift
                      go_simp
                      first
                        | (go_at_call 127; exact (entries_any _).mono fun e w' hp => ⟨hp.1, hq.call hp.2⟩)
                    (try simp only [Act.put, List.setIfInBounds_toArray, List.set_cons_zero, List.set_cons_succ])
                    go_big_quiet_on)))
          refine wpQuiet_nil ?_
          intro w2 hz
          have hs0 : w2.cell? ⟨wr.heap.size, 0, none⟩ = some (.int .i64 kd) := (hz.cells wr.heap.size 0 (by simp)).trans (by simp [go_sem])
          have hs1 : w2.cell? ⟨wr.heap.size, 1, none⟩ = some (.int .i64 ln) := (hz.cells wr.heap.size 1 (by simp)).trans (by simp [go_sem])
          have hbw : Below wr.heap.size wr w2 := ((Below.refl _ _).alloc (Nat.le_refl _) _).trans (hz.below.mono (by simp))
          clear hz
          have hbel3 : Below w.heap.size w w2 := hbel.trans (hbw.mono hbel.size)
          go_wp2
          try rw [Exit.noGoto_ret]
          go_ret3
          have hres := Hres.out
          rw [← Hgo.out, go_len Hkok.out (.inr hhi)] at hres
          exact places_err hres hbel3
        have hlok : ¬ (ln < loS kd ∨ hiS kd < ln) := by omega
        have Hlok := hide hlok
        clear hlok
        have hlo' : decide (ln < loS kd) = false := by simpa using hlo
        have hhi' : decide (hiS kd < ln) = false := by simpa using hhi
        refine wp_region_ext (by kernel_rfl) (by kernel_rfl) ?_
        repeat (first
          | go_big_quiet_skip
          | (go_big_quiet_want
             first
               | (apply quiet_val
                  · intro wq hq
                    have hcq := hq.cells
                    have hzq := hq.lift
                    go_simp
                    try go_bits
                    first | done | with_reducible rfl
                  (try simp only [Act.put, List.setIfInBounds_toArray, List.set_cons_zero, List.set_cons_succ])
                  go_big_quiet_on)
               | (apply quiet_call
                  · intro wq hq
                    have hcq := hq.cells
                    have hzq := hq.lift
                    go_simp
                    first
                      | (go_at_call 127; exact (entries_any _).mono fun e w' hp => ⟨hp.1, hq.call hp.2⟩)
                  (try simp only [Act.put, List.setIfInBounds_toArray, List.set_cons_zero, List.set_cons_succ])
                  go_big_quiet_on)))
        refine wpQuiet_nil ?_
        intro w2 hz
        have hs0 : w2.cell? ⟨wr.heap.size, 0, none⟩ = some (.int .i64 kd) := (hz.cells wr.heap.size 0 (by simp)).trans (by simp [go_sem])
        have hs1 : w2.cell? ⟨wr.heap.size, 1, none⟩ = some (.int .i64 ln) := (hz.cells wr.heap.size 1 (by simp)).trans (by simp [go_sem])
        have hbw : Below wr.heap.size wr w2 := ((Below.refl _ _).alloc (Nat.le_refl _) _).trans (hz.below.mono (by simp))
        clear hz
        have hbel3 : Below w.heap.size w w2 := hbel.trans (hbw.mono hbel.size)
        have hown3 := own_below hown hbw
        have hne : some wr.heap.size ≠ u6.ownBlock := fun e => by have := (hown.lt _ e.symm).2; omega
        clear hidx hflo hfhi hlo' hhi' hc0 hc1 hown hbw
        have hlb := lo_bd kd
        have hub := hi_bd kd
        by_cases hfit : 64 - (t : Int) < ln
        · by_cases hfull : 63 ≤ a
          · have ha63 : ((a : Int) + 1 ≥ 64) := by omega
            go_wp2
            try rw [Exit.noGoto_ret]
            go_ret3
            have hres := Hres.out
            rw [← Hgo.out, go_full Hkok.out Hlok.out hfit hfull] at hres
            exact places_err hres hbel3
          · have ha63 : ¬ (64 ≤ (a : Int) + 1) := by omega
            go_wp2_with (first
              | (at_builtin; refine wpList_append_own _ rfl (.tmp 65) (.tmp 69) 180 rfl w.heap.size 185 i0 _ 2 16 Tryz.underlying180 hi hz0 hz1 hz2 rfl (by decide) _ _ _ rfl (hown3.alloc _) ⟨w2.heap.size, 0, none⟩ 1 1 [.int .i64 ((a : Int) + 1), .int .i64 0] rfl rfl (news2 _ _ _ _) (by simp [Value.oneCell']) (by unfold maxLen; omega) (by omega) (by have := hbel3.size; simp; omega) ?_; intro v4 w4 hown4 hg4 _
                 have hs4 := hg4.cell (a := ⟨wr.heap.size, 1, none⟩) ((World.cell?_alloc_lt w2 _ _ (block_lt_of_cell hs1)).trans hs1) hne
                 have hbel4 : Below w.heap.size w w4 := (hbel3.alloc hbel3.size _).grown hg4 (by have := hbel3.size; simp; omega) (fun q hq => (hown3.lt q hq).1)))
            clear hown3 hg4 hs0 hs1 hbel3
            go_wp2
            go_roundw
            case rel =>
              refine ⟨k + 1, a + 1, ln.toNat, acc ++ [(a + 1, 0)], by omega, by go_num, rfl, by go_num, ?_, by omega, by omega, by simp [hacc], ?_, ?_, hbel4⟩
              · simp; omega
              · rw [Hid, ← Hgo.out, go_next Hkok.out Hlok.out hfit hfull]
              · rw [flatA_snoc]
                simpa using hown4
            case measure => simp [intOf]; omega
        · go_wp2_with (first
            | (at_builtin; refine wpList_append_own _ rfl (.tmp 65) (.tmp 69) 180 rfl w.heap.size 185 i0 _ 2 16 Tryz.underlying180 hi hz0 hz1 hz2 rfl (by decide) _ _ _ rfl (hown3.alloc _) ⟨w2.heap.size, 0, none⟩ 1 1 [.int .i64 a, .int .i64 t] rfl rfl (news2 _ _ _ _) (by simp [Value.oneCell']) (by unfold maxLen; omega) (by omega) (by have := hbel3.size; simp; omega) ?_; intro v4 w4 hown4 hg4 _
               have hs4 := hg4.cell (a := ⟨wr.heap.size, 1, none⟩) ((World.cell?_alloc_lt w2 _ _ (block_lt_of_cell hs1)).trans hs1) hne
               have hbel4 : Below w.heap.size w w4 := (hbel3.alloc hbel3.size _).grown hg4 (by have := hbel3.size; simp; omega) (fun q hq => (hown3.lt q hq).1)))
          clear hown3 hg4 hs0 hs1 hbel3
          go_wp2
          go_roundw
          case rel =>
            refine ⟨k + 1, a, t + ln.toNat, acc ++ [(a, t)], by omega, by go_num, rfl, rfl, ?_, by omega, by omega, by simp [hacc], ?_, ?_, hbel4⟩
            · simp; omega
            · rw [Hid, ← Hgo.out, go_here Hkok.out Hlok.out hfit]
            · rw [flatA_snoc]
              simpa using hown4
          case measure => simp [intOf]; omega
      · have hkn : k = n := by omega
        subst hkn
        have hdrop : ps.drop k = [] := List.drop_eq_nil_of_le (by have := Hn.out; omega)
        rw [hdrop] at Hgo
        clear hdrop HC hlt
        go_wp2
        try rw [Exit.noGoto_ret]
        go_ret3
        have hres := Hres.out
        rw [← Hgo.out] at hres
        refine ⟨hbel, ?_⟩
        rw [hres]
        exact ⟨u6, by simp, by rw [hacc]; exact hown⟩

end Go.Proofs.YtpilfhjlfbjloaaGreatDoor
