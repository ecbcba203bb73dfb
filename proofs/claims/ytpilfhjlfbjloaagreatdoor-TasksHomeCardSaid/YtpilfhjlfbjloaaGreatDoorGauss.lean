/-
  Whole numbers as floats, exactly. Conditions: none. A whole number and a half, as a float: it is no whole number, or beyond all ranges. Conditions: none. The walks of gauss at floats that are numbers. Conditions: none.
-/
import Derived.Laws.FloatArith
import Derived.Test.YtpilfhjlfbjloaaGreatDoorProg
import Derived.Test.YtpilfhjlfbjloaaGreatDoorLib
namespace Go.Proofs.YtpilfhjlfbjloaaGreatDoor
open Ieee

/-! ### whole numbers as floats, exactly -/
theorem cut_zero (s : Bool) (m : Nat) : Toward.even.cut s m 0 = m := by
  unfold Toward.cut
  simp [Nat.mod_one]

theorem cut_even (s : Bool) (q d : Nat) (hd : d ≤ (q * 2 ^ d).log2 + 2) : Toward.even.cut s (q * 2 ^ d) d = q := by
  unfold Toward.cut
  have hp := Nat.two_pow_pos d
  simp only [Nat.min_eq_left hd, Nat.shiftLeft_eq, Nat.one_mul, Nat.mul_div_cancel q hp, Nat.mul_mod_left]
  have h1 : decide (2 ^ d < 2 * 0) = false := by simp
  have h2 : (2 ^ d == 2 * 0) = false := by simp
  rw [h1, h2]
  rfl

theorem pow_split {n : Nat} (h0 : 0 < n) (h : n.log2 ≤ 52) : 4503599627370496 ≤ n * 2 ^ (52 - n.log2) ∧ n * 2 ^ (52 - n.log2) < 9007199254740992 := by
  have h1 : 2 ^ n.log2 ≤ n := Nat.log2_self_le (by omega)
  have h2 : n < 2 ^ (n.log2 + 1) := Nat.lt_log2_self
  have e : 2 ^ n.log2 * 2 ^ (52 - n.log2) = 2 ^ 52 := by rw [← Nat.pow_add]; congr 1; omega
  have h3 := Nat.mul_le_mul_right (2 ^ (52 - n.log2)) h1
  have h4 := Nat.mul_lt_mul_of_pos_right h2 (Nat.two_pow_pos (52 - n.log2))
  rw [Nat.pow_succ, Nat.mul_right_comm, e] at h4
  rw [e] at h3
  omega

theorem log_le {n : Nat} (h0 : 0 < n) (h : n < 9007199254740992) : n.log2 ≤ 52 := by
  have := (Nat.log2_lt (n := n) (k := 53) (by omega)).2 (by omega)
  omega

theorem log_mul {n : Nat} (h0 : 0 < n) (k : Nat) : (n * 2 ^ k).log2 = n.log2 + k := by
  have hpos : n * 2 ^ k ≠ 0 := Nat.ne_of_gt (Nat.mul_pos h0 (Nat.two_pow_pos k))
  rw [Nat.log2_eq_iff hpos]
  have h1 : 2 ^ n.log2 ≤ n := Nat.log2_self_le (by omega)
  have h2 : n < 2 ^ (n.log2 + 1) := Nat.lt_log2_self
  refine ⟨by rw [Nat.pow_add]; exact Nat.mul_le_mul_right _ h1, ?_⟩
  rw [show n.log2 + k + 1 = (n.log2 + 1) + k by omega, Nat.pow_add]
  exact Nat.mul_lt_mul_of_pos_right h2 (Nat.two_pow_pos k)

/-- The rung of a whole number. -/
def rungI (n : Nat) : Nat := (n.log2 + 1022) * 4503599627370496 + n * 2 ^ (52 - n.log2)

theorem rung_lt {n : Nat} (h0 : 0 < n) (h : n < 9007199254740992) : rungI n < 2047 * 4503599627370496 := by
  have hl := log_le h0 h
  obtain ⟨p1, p2⟩ := pow_split h0 hl
  unfold rungI
  omega

/-- The word nearest to a whole number, shifted or not. -/
theorem nearest_shift (s : Bool) {n : Nat} (h0 : 0 < n) (h : n < 9007199254740992) (k : Nat) :
    double.nearest s (n * 2 ^ k) (-(k : Int)) = double.word s (rungI n) := by
  have hl := log_le h0 h
  obtain ⟨p1, p2⟩ := pow_split h0 hl
  have hr := rung_lt h0 h
  have hpos : 0 < n * 2 ^ k := Nat.mul_pos h0 (Nat.two_pow_pos k)
  unfold Format.nearest
  rw [if_neg (by omega), log_mul h0]
  have e1 : double.leastPlace = -1074 := by decide
  have e2 : double.infRung = 2047 * 4503599627370496 := by decide
  have e3 : double.binade = 4503599627370496 := by decide
  have e4 : (double.fractionBits : Int) = 52 := by decide
  rw [e1, e2, e3, e4]
  have hlast : max (-(k : Int) + ((n.log2 + k : Nat) : Int) - 52) (-1074) = (n.log2 : Int) - 52 := by omega
  simp only
  rw [hlast]
  by_cases hks : k ≤ 52 - n.log2
  · have a1 : (-(k : Int) - ((n.log2 : Int) - 52)).toNat = 52 - n.log2 - k := by omega
    have a2 : ((n.log2 : Int) - 52 - -(k : Int)).toNat = 0 := by omega
    have a3 : ((n.log2 : Int) - 52 - -1074).toNat = n.log2 + 1022 := by omega
    rw [a1, a2, a3, cut_zero, Nat.shiftLeft_eq, Nat.mul_assoc, ← Nat.pow_add, show k + (52 - n.log2 - k) = 52 - n.log2 by omega]
    rw [Nat.min_eq_left (by unfold rungI at hr; omega)]
    rfl
  · have a1 : (-(k : Int) - ((n.log2 : Int) - 52)).toNat = 0 := by omega
    have a2 : ((n.log2 : Int) - 52 - -(k : Int)).toNat = k - (52 - n.log2) := by omega
    have a3 : ((n.log2 : Int) - 52 - -1074).toNat = n.log2 + 1022 := by omega
    have e : n * 2 ^ k = (n * 2 ^ (52 - n.log2)) * 2 ^ (k - (52 - n.log2)) := by
      rw [Nat.mul_assoc, ← Nat.pow_add]
      congr 2
      omega
    have hlg : (n * 2 ^ k).log2 = n.log2 + k := log_mul h0 k
    rw [a1, a2, a3, Nat.shiftLeft_zero, e, cut_even s _ _ (by rw [← e, hlg]; omega)]
    rw [Nat.min_eq_left (by unfold rungI at hr; omega)]
    rfl

/-- What the word of a whole number stands for. -/
theorem read_rung (s : Bool) {n : Nat} (h0 : 0 < n) (h : n < 9007199254740992) : double.read (double.word s (rungI n)) = .number s (n * 2 ^ (52 - n.log2)) ((n.log2 : Int) - 52) := by
  have hl := log_le h0 h
  obtain ⟨p1, p2⟩ := pow_split h0 hl
  have hr := rung_lt h0 h
  have e1 : double.leastPlace = -1074 := by decide
  have e2 : double.infRung = 2047 * 4503599627370496 := by decide
  have e3 : double.binade = 4503599627370496 := by decide
  have e5 : double.signWeight = 9223372036854775808 := by decide
  obtain ⟨M, hM⟩ : ∃ M, M = n * 2 ^ (52 - n.log2) := ⟨_, rfl⟩
  obtain ⟨R, hR⟩ : ∃ R, R = rungI n := ⟨_, rfl⟩
  have hRM : R = (n.log2 + 1022) * 4503599627370496 + M := by rw [hR, hM]; rfl
  rw [← hM] at p1 p2 ⊢
  rw [← hR] at hr ⊢
  have hneg : (double.word s R / double.signWeight % 2 == 1) = s := by
    unfold Format.word
    rw [e5]
    cases s with
    | false => simp; omega
    | true => simp; omega
  have hrung : double.word s R % double.signWeight = R := by
    unfold Format.word
    rw [e5]
    cases s with
    | false => simp; omega
    | true => simp; omega
  unfold Format.read
  simp only [hneg, hrung]
  rw [e1, e2, e3, if_neg (by omega), if_pos (by omega)]
  have q1 : R % 4503599627370496 = M - 4503599627370496 := by omega
  have q2 : R / 4503599627370496 = n.log2 + 1023 := by omega
  rw [q1, q2, show 4503599627370496 + (M - 4503599627370496) = M by omega, show (-1074 : Int) + ((n.log2 + 1023 - 1 : Nat) : Int) = (n.log2 : Int) - 52 by omega]

/-! ### the whole number n as a float -/
def fI (n : Int) : Nat := double.nearest (decide (n < 0)) n.natAbs 0

theorem fI_word {n : Int} (h0 : n ≠ 0) (h : n.natAbs < 9007199254740992) : fI n = double.word (decide (n < 0)) (rungI n.natAbs) := by
  have := nearest_shift (decide (n < 0)) (n := n.natAbs) (by omega) h 0
  rw [Nat.pow_zero, Nat.mul_one] at this
  exact this

/-- A datum that is a whole number, of places from -52 on. -/
def Is (d : Datum) (n : Int) : Prop := ∃ (s : Bool) (m : Nat) (p : Nat), d = .number s m (-(p : Int)) ∧ m = n.natAbs * 2 ^ p ∧ (n ≠ 0 → s = decide (n < 0)) ∧ (n = 0 → s = false)

theorem fI_is {n : Int} (h : n.natAbs < 9007199254740992) : Is (double.read (fI n)) n := by
  by_cases h0 : n = 0
  · subst h0
    obtain ⟨q, hq⟩ : ∃ q : Nat, q = 1074 := ⟨_, rfl⟩
    exact ⟨false, 0, q, by rw [hq]; decide, by rw [Int.natAbs_zero, Nat.zero_mul], fun e => absurd rfl e, fun _ => rfl⟩
  have hl := log_le (n := n.natAbs) (by omega) h
  rw [fI_word h0 h, read_rung _ (by omega) h]
  exact ⟨_, _, 52 - n.natAbs.log2, by congr 1; omega, rfl, fun _ => rfl, fun e => absurd e h0⟩

theorem nearest_zero (s : Bool) (p : Int) : double.nearest s 0 p = double.word s 0 := by unfold Format.nearest; rw [if_pos rfl]
theorem is_write {d : Datum} {n : Int} (h : Is d n) (hn : n.natAbs < 9007199254740992) : double.write d = fI n := by
  obtain ⟨s, m, p, rfl, rfl, h1, h2⟩ := h
  by_cases h0 : n = 0
  · subst h0
    rw [h2 rfl]
    show double.nearest false (Int.natAbs 0 * 2 ^ p) (-(p : Int)) = double.nearest (decide ((0 : Int) < 0)) (Int.natAbs 0) 0
    rw [Int.natAbs_zero, Nat.zero_mul, nearest_zero, nearest_zero]
    rfl
  · rw [fI_word h0 hn, ← h1 h0]
    exact nearest_shift s (by omega) hn p

theorem signed_is (s : Bool) (n : Int) (p u : Nat) (h1 : n ≠ 0 → s = decide (n < 0)) : signed s (n.natAbs * 2 ^ p) u = n * 2 ^ (p + u) := by
  unfold signed
  rw [Nat.shiftLeft_eq, Nat.mul_assoc, ← Nat.pow_add]
  by_cases h0 : n = 0
  · subst h0; cases s <;> simp
  · rw [h1 h0]
    have hp : (0 : Int) < 2 ^ (p + u) := Int.pow_pos (by omega)
    by_cases hn : n < 0
    · simp only [hn, decide_true, if_true]
      have h2 : ((n.natAbs : Nat) : Int) = -n := by omega
      rw [Int.natCast_mul, h2, Int.natCast_pow, Int.neg_mul, Int.neg_neg]
      rfl
    · simp only [hn, decide_false]
      have h2 : ((n.natAbs : Nat) : Int) = n := by omega
      rw [Int.natCast_mul, h2, Int.natCast_pow]
      rfl

/-- A sum, exactly. The second one may be a 0 below 0. -/
theorem sum_is {a b : Datum} {x y : Int} (ha : Is a x) (hb : Is b y ∨ (y = 0 ∧ ∃ q : Nat, b = .number true 0 (-(q : Int)))) : ∃ d, a.sum b = some d ∧ Is d (x + y) := by
  obtain ⟨s, m, p, rfl, rfl, h1, h2⟩ := ha
  obtain ⟨t, n, q, rfl, rfl, h3, h4⟩ : ∃ (t : Bool) (n q : Nat), b = .number t n (-(q : Int)) ∧ n = y.natAbs * 2 ^ q ∧ (y ≠ 0 → t = decide (y < 0)) ∧ (y = 0 → s = false ∨ t = false ∨ x ≠ 0) := by
    rcases hb with ⟨t, n, q, e1, e2, e3, e4⟩ | ⟨e0, q, e1⟩
    · exact ⟨t, n, q, e1, e2, e3, fun h => .inr (.inl (e4 h))⟩
    · refine ⟨true, 0, q, e1, by rw [e0, Int.natAbs_zero, Nat.zero_mul], fun h => absurd e0 h, fun _ => ?_⟩
      by_cases hx : x = 0
      · exact .inl (h2 hx)
      · exact .inr (.inr hx)
  obtain ⟨P, hP⟩ : ∃ P : Nat, P = max p q := ⟨_, rfl⟩
  have hbase : min (-(p : Int)) (-(q : Int)) = -(P : Int) := by omega
  have u1 : (-(p : Int) - -(P : Int)).toNat = P - p := by omega
  have u2 : (-(q : Int) - -(P : Int)).toNat = P - q := by omega
  have w1 := signed_is s x p (P - p) h1
  have w2 := signed_is t y q (P - q) h3
  rw [show p + (P - p) = P by omega] at w1
  rw [show q + (P - q) = P by omega] at w2
  have htot : x * 2 ^ P + y * 2 ^ P = (x + y) * 2 ^ P := (Int.add_mul x y (2 ^ P)).symm
  have hp : (0 : Int) < 2 ^ P := Int.pow_pos (by omega)
  refine ⟨.number (if (x + y) * 2 ^ P = 0 then s && t else decide ((x + y) * 2 ^ P < 0)) ((x + y) * 2 ^ P).natAbs (-(P : Int)), ?_, _, _, P, rfl, ?_, fun h0 => ?_, fun h0 => ?_⟩
  · unfold Datum.sum
    simp only
    rw [hbase, u1, u2, w1, w2, htot]
  · rw [Int.natAbs_mul, Int.natAbs_pow]
    rfl
  · have hne : (x + y) * 2 ^ P ≠ 0 := Int.mul_ne_zero h0 (by omega)
    rw [if_neg hne]
    by_cases hn : x + y < 0
    · have h9 := Int.mul_neg_of_neg_of_pos hn hp
      simp [hn, h9]
    · have h9 : 0 ≤ (x + y) * 2 ^ P := Int.mul_nonneg (by omega) (by omega)
      have h8 : ¬ (x + y) * 2 ^ P < 0 := by omega
      simp [hn, h8]
  · rw [h0, Int.zero_mul, if_pos rfl]
    by_cases hx : x = 0
    · rw [h2 hx]; rfl
    · have hy : y ≠ 0 := by omega
      rw [h1 hx, h3 hy]
      by_cases h9 : x < 0
      · have : ¬ y < 0 := by omega
        simp [this]
      · simp [h9]

theorem fadd {x y : Int} (hx : x.natAbs < 9007199254740992) (hy : y.natAbs < 9007199254740992) (hs : (x + y).natAbs < 9007199254740992) : floatBits .add .f64 (fI x) (fI y) = some (fI (x + y)) := by
  obtain ⟨d, h1, h2⟩ := sum_is (fI_is hx) (.inl (fI_is hy))
  show ((double.read (fI x)).sum (double.read (fI y))).map double.write = _
  rw [h1, Option.map_some, is_write h2 hs]

theorem is_opposite {d : Datum} {y : Int} (h : Is d y) : Is d.opposite (-y) ∨ (-y = 0 ∧ ∃ q : Nat, d.opposite = .number true 0 (-(q : Int))) := by
  obtain ⟨s, m, p, rfl, rfl, h1, h2⟩ := h
  by_cases h0 : y = 0
  · subst h0
    right
    rw [h2 rfl]
    exact ⟨rfl, p, by unfold Datum.opposite; rw [Int.natAbs_zero, Nat.zero_mul]; rfl⟩
  · left
    refine ⟨!s, _, p, rfl, by rw [Int.natAbs_neg], fun h9 => ?_, fun h9 => by omega⟩
    rw [h1 h0]
    by_cases h8 : y < 0
    · have : ¬ -y < 0 := by omega
      simp [h8]
      omega
    · have : -y < 0 := by omega
      simp [h8]
      omega

theorem fsub {x y : Int} (hx : x.natAbs < 9007199254740992) (hy : y.natAbs < 9007199254740992) (hs : (x - y).natAbs < 9007199254740992) : floatBits .sub .f64 (fI x) (fI y) = some (fI (x - y)) := by
  obtain ⟨d, h1, h2⟩ := sum_is (fI_is hx) (is_opposite (fI_is hy))
  show ((double.read (fI x)).sum (double.read (fI y)).opposite).map double.write = _
  rw [h1, Option.map_some, is_write h2 (by rw [← Int.sub_eq_add_neg]; exact hs), ← Int.sub_eq_add_neg]

/-- How two whole numbers stand. -/
theorem order_is {a b : Datum} {x y : Int} (ha : Is a x) (hb : Is b y) : a.order b = some (compare x y) := by
  obtain ⟨s, m, p, rfl, rfl, h1, h2⟩ := ha
  obtain ⟨t, n, q, rfl, rfl, h3, h4⟩ := hb
  obtain ⟨P, hP⟩ : ∃ P : Nat, P = max p q := ⟨_, rfl⟩
  have hbase : min (-(p : Int)) (-(q : Int)) = -(P : Int) := by omega
  have u1 : (-(p : Int) - -(P : Int)).toNat = P - p := by omega
  have u2 : (-(q : Int) - -(P : Int)).toNat = P - q := by omega
  have w1 := signed_is s x p (P - p) h1
  have w2 := signed_is t y q (P - q) h3
  rw [show p + (P - p) = P by omega] at w1
  rw [show q + (P - q) = P by omega] at w2
  unfold Datum.order
  simp only
  rw [hbase, u1, u2, w1, w2]
  congr 1
  have hp : (0 : Int) < 2 ^ P := Int.pow_pos (by omega)
  rcases Int.lt_trichotomy x y with h | h | h
  · rw [Int.compare_eq_lt.2 h, Int.compare_eq_lt.2 (Int.mul_lt_mul_of_pos_right h hp)]
  · subst h; simp
  · rw [Int.compare_eq_gt.2 h, Int.compare_eq_gt.2 (Int.mul_lt_mul_of_pos_right h hp)]

theorem toInt_is {d : Datum} {n : Int} (h : Is d n) : d.toInt .zero = some n := by
  obtain ⟨s, m, p, rfl, rfl, h1, h2⟩ := h
  have e1 : (-(p : Int)).toNat = 0 := by omega
  have e2 : (- -(p : Int)).toNat = p := by omega
  unfold Datum.toInt Datum.integral
  simp only [e1, e2, Nat.shiftLeft_zero]
  have hcut : Toward.zero.cut s (n.natAbs * 2 ^ p) p = n.natAbs := by
    unfold Toward.cut
    by_cases h0 : n.natAbs = 0
    · rw [h0]; simp
    · have hl : p ≤ (n.natAbs * 2 ^ p).log2 + 2 := by rw [log_mul (by omega)]; omega
      simp only [Nat.min_eq_left hl, Nat.shiftLeft_eq, Nat.one_mul, Nat.mul_div_cancel _ (Nat.two_pow_pos p)]
      rfl
  rw [hcut]
  have := signed_is s n 0 0 h1
  rw [Nat.pow_zero, Nat.mul_one] at this
  rw [this]
  simp

/-- A whole number, cut towards zero, is itself. -/
theorem trunc_is {d : Datum} {n : Int} (h : Is d n) (hn : n.natAbs < 9007199254740992) : double.write (d.integral .zero) = fI n := by
  obtain ⟨s, m, p, rfl, rfl, h1, h2⟩ := h
  have e1 : (-(p : Int)).toNat = 0 := by omega
  have e2 : (- -(p : Int)).toNat = p := by omega
  have hcut : Toward.zero.cut s (n.natAbs * 2 ^ p) p = n.natAbs := by
    unfold Toward.cut
    by_cases h0 : n.natAbs = 0
    · rw [h0]; simp
    · have hl : p ≤ (n.natAbs * 2 ^ p).log2 + 2 := by rw [log_mul (by omega)]; omega
      simp only [Nat.min_eq_left hl, Nat.shiftLeft_eq, Nat.one_mul, Nat.mul_div_cancel _ (Nat.two_pow_pos p)]
      rfl
  unfold Datum.integral
  simp only [e1, e2, Nat.shiftLeft_zero, hcut]
  refine is_write ⟨s, n.natAbs, 0, rfl, by rw [Nat.pow_zero, Nat.mul_one], h1, h2⟩ hn

theorem fI_order {x y : Int} (hx : x.natAbs < 9007199254740992) (hy : y.natAbs < 9007199254740992) : double.order (fI x) (fI y) = some (compare x y) :=
  order_is (fI_is hx) (fI_is hy)

theorem fI_toInt {x : Int} (hx : x.natAbs < 9007199254740992) : floatToIntVal .f64 (fI x) .i64 = some x := by
  unfold floatToIntVal
  show (match (double.read (fI x)).toInt .zero with | some n => if IntKind.i64.min ≤ n ∧ n ≤ IntKind.i64.max then some n else none | none => none) = some x
  rw [toInt_is (fI_is hx)]
  simp only
  rw [if_pos]
  have e1 : IntKind.i64.min = -9223372036854775808 := by decide
  have e2 : IntKind.i64.max = 9223372036854775807 := by decide
  rw [e1, e2]
  omega

theorem fI_ofInt (n : Int) : floatOfInt .f64 n = fI n := rfl

/-- A great number stays great. -/
theorem great {n : Int} (hn : 9007199254740992 ≤ n.natAbs) (hb : n.natAbs ≤ 18446744073709551616) : ∃ (m : Nat) (p : Int), double.read (fI n) = .number (decide (n < 0)) m p ∧ 4503599627370496 ≤ m ∧ 1 ≤ p ∧ m < 9007199254740992 ∧ p ≤ 64 := by
  obtain ⟨N, hN⟩ : ∃ N, N = n.natAbs := ⟨_, rfl⟩
  obtain ⟨L, hL⟩ : ∃ L, L = N.log2 := ⟨_, rfl⟩
  rw [← hN] at hn hb
  have l1 : 2 ^ L ≤ N := by rw [hL]; exact Nat.log2_self_le (by omega)
  have l2 : N < 2 ^ (L + 1) := by rw [hL]; exact Nat.lt_log2_self
  have l3 : 53 ≤ L := by
    have := (Nat.le_log2 (n := N) (k := 53) (by omega)).2 (by omega)
    omega
  have l4 : L ≤ 64 := by
    have := (Nat.log2_lt (n := N) (k := 65) (by omega)).2 (by omega)
    omega
  have e1 : double.leastPlace = -1074 := by decide
  have e2 : double.infRung = 2047 * 4503599627370496 := by decide
  have e3 : double.binade = 4503599627370496 := by decide
  have e4 : (double.fractionBits : Int) = 52 := by decide
  have e5 : double.signWeight = 9223372036854775808 := by decide
  -- what is kept
  obtain ⟨q, hq⟩ : ∃ q, q = N / 2 ^ (L - 52) := ⟨_, rfl⟩
  have hp := Nat.two_pow_pos (L - 52)
  have q1 : 4503599627370496 ≤ q := by
    rw [hq, Nat.le_div_iff_mul_le hp]
    refine Nat.le_trans ?_ l1
    rw [show (4503599627370496 : Nat) = 2 ^ 52 by decide, ← Nat.pow_add, show 52 + (L - 52) = L by omega]
    exact Nat.le_refl _
  have q2 : q < 9007199254740992 := by
    rw [hq, Nat.div_lt_iff_lt_mul hp]
    refine Nat.lt_of_lt_of_le l2 ?_
    rw [show (9007199254740992 : Nat) = 2 ^ 53 by decide, ← Nat.pow_add, show 53 + (L - 52) = L + 1 by omega]
    exact Nat.le_refl _
  obtain ⟨K, hK, hK2⟩ : ∃ K, Toward.even.cut (decide (n < 0)) N (L - 52) = K ∧ (K = q ∨ K = q + 1) := by
    refine ⟨_, rfl, ?_⟩
    unfold Toward.cut
    rw [← hL, Nat.min_eq_left (by omega), Nat.shiftLeft_eq, Nat.one_mul]
    simp only
    rw [← hq]
    generalize (decide (2 ^ (L - 52) < 2 * (N % 2 ^ (L - 52))) || 2 ^ (L - 52) == 2 * (N % 2 ^ (L - 52)) && q % 2 == 1) = b
    cases b
    · exact .inl rfl
    · exact .inr rfl
  have hw : fI n = double.word (decide (n < 0)) ((L + 1022) * 4503599627370496 + K) := by
    show double.nearest (decide (n < 0)) n.natAbs 0 = _
    rw [← hN]
    unfold Format.nearest
    rw [if_neg (by omega), ← hL, e1, e2, e3, e4]
    simp only
    rw [show max ((0 : Int) + (L : Int) - 52) (-1074) = (L : Int) - 52 by omega, show ((0 : Int) - ((L : Int) - 52)).toNat = 0 by omega, show ((L : Int) - 52 - 0).toNat = L - 52 by omega,
      show ((L : Int) - 52 - -1074).toNat = L + 1022 by omega, Nat.shiftLeft_zero, hK, Nat.min_eq_left (by omega)]
  obtain ⟨R, hR⟩ : ∃ R, R = (L + 1022) * 4503599627370496 + K := ⟨_, rfl⟩
  rw [← hR] at hw
  have hr : R < 2047 * 4503599627370496 := by omega
  have hneg : (double.word (decide (n < 0)) R / double.signWeight % 2 == 1) = decide (n < 0) := by
    unfold Format.word
    rw [e5]
    cases decide (n < 0) with
    | false => simp; omega
    | true => simp; omega
  have hrung : double.word (decide (n < 0)) R % double.signWeight = R := by
    unfold Format.word
    rw [e5]
    cases decide (n < 0) with
    | false => simp; omega
    | true => simp; omega
  rw [hw]
  unfold Format.read
  simp only [hneg, hrung]
  rw [e1, e2, e3, if_neg (by omega), if_pos (by omega)]
  exact ⟨_, _, rfl, by omega, by omega, by omega, by omega⟩

/-- A number of a great exponent keeps it, however it is rounded. -/
theorem near_big (s : Bool) (T b : Nat) (h0 : 0 < T) (hb : b ≤ 500) (h1 : b + 21 ≤ T.log2) (h2 : T.log2 ≤ 500) (h3 : 52 ≤ T.log2) : ∃ (m : Nat) (p : Int), double.read (double.nearest s T (-(b : Int))) = .number s m p ∧ 4503599627370496 ≤ m ∧ -31 ≤ p := by
  obtain ⟨L, hL⟩ : ∃ L, L = T.log2 := ⟨_, rfl⟩
  rw [← hL] at h1 h2 h3
  have l1 : 2 ^ L ≤ T := by rw [hL]; exact Nat.log2_self_le (by omega)
  have l2 : T < 2 ^ (L + 1) := by rw [hL]; exact Nat.lt_log2_self
  have e1 : double.leastPlace = -1074 := by decide
  have e2 : double.infRung = 2047 * 4503599627370496 := by decide
  have e3 : double.binade = 4503599627370496 := by decide
  have e4 : (double.fractionBits : Int) = 52 := by decide
  have e5 : double.signWeight = 9223372036854775808 := by decide
  obtain ⟨q, hq⟩ : ∃ q, q = T / 2 ^ (L - 52) := ⟨_, rfl⟩
  have hp := Nat.two_pow_pos (L - 52)
  have q1 : 4503599627370496 ≤ q := by
    rw [hq, Nat.le_div_iff_mul_le hp]
    refine Nat.le_trans ?_ l1
    rw [show (4503599627370496 : Nat) = 2 ^ 52 by decide, ← Nat.pow_add, show 52 + (L - 52) = L by omega]
    exact Nat.le_refl _
  have q2 : q < 9007199254740992 := by
    rw [hq, Nat.div_lt_iff_lt_mul hp]
    refine Nat.lt_of_lt_of_le l2 ?_
    rw [show (9007199254740992 : Nat) = 2 ^ 53 by decide, ← Nat.pow_add, show 53 + (L - 52) = L + 1 by omega]
    exact Nat.le_refl _
  obtain ⟨K, hK, hK2⟩ : ∃ K, Toward.even.cut s T (L - 52) = K ∧ (K = q ∨ K = q + 1) := by
    refine ⟨_, rfl, ?_⟩
    unfold Toward.cut
    rw [← hL, Nat.min_eq_left (by omega), Nat.shiftLeft_eq, Nat.one_mul]
    simp only
    rw [← hq]
    generalize (decide (2 ^ (L - 52) < 2 * (T % 2 ^ (L - 52))) || 2 ^ (L - 52) == 2 * (T % 2 ^ (L - 52)) && q % 2 == 1) = b
    cases b
    · exact .inl rfl
    · exact .inr rfl
  have hw : double.nearest s T (-(b : Int)) = double.word s ((L + 1022 - b) * 4503599627370496 + K) := by
    unfold Format.nearest
    rw [if_neg (by omega), ← hL, e1, e2, e3, e4]
    simp only
    rw [show max (-(b : Int) + (L : Int) - 52) (-1074) = (L : Int) - 52 - b by omega, show (-(b : Int) - ((L : Int) - 52 - b)).toNat = 0 by omega, show ((L : Int) - 52 - b - -(b : Int)).toNat = L - 52 by omega,
      show ((L : Int) - 52 - b - -1074).toNat = L + 1022 - b by omega, Nat.shiftLeft_zero, hK, Nat.min_eq_left (by omega)]
  obtain ⟨R, hR⟩ : ∃ R, R = (L + 1022 - b) * 4503599627370496 + K := ⟨_, rfl⟩
  rw [← hR] at hw
  have hr : R < 2047 * 4503599627370496 := by omega
  have hneg : (double.word s R / double.signWeight % 2 == 1) = s := by
    unfold Format.word
    rw [e5]
    cases s with
    | false => simp; omega
    | true => simp; omega
  have hrung : double.word s R % double.signWeight = R := by
    unfold Format.word
    rw [e5]
    cases s with
    | false => simp; omega
    | true => simp; omega
  rw [hw]
  unfold Format.read
  simp only [hneg, hrung]
  rw [e1, e2, e3, if_neg (by omega), if_pos (by omega)]
  exact ⟨_, _, rfl, by omega, by omega⟩

end Go.Proofs.YtpilfhjlfbjloaaGreatDoor

namespace Go.Proofs.YtpilfhjlfbjloaaGreatDoor
open Ieee

/-- The rung of a whole number, one place down. -/
def rungH (n : Nat) : Nat := (n.log2 + 1021) * 4503599627370496 + n * 2 ^ (52 - n.log2)

theorem rungH_lt {n : Nat} (h0 : 0 < n) (h : n < 9007199254740992) : rungH n < 2047 * 4503599627370496 := by
  have hl := log_le h0 h
  obtain ⟨p1, p2⟩ := pow_split h0 hl
  unfold rungH
  omega

theorem nearest_half (s : Bool) {n : Nat} (h0 : 0 < n) (h : n < 9007199254740992) (k : Nat) :
    double.nearest s (n * 2 ^ k) (-(k : Int) - 1) = double.word s (rungH n) := by
  have hl := log_le h0 h
  obtain ⟨p1, p2⟩ := pow_split h0 hl
  have hr := rungH_lt h0 h
  have hpos : 0 < n * 2 ^ k := Nat.mul_pos h0 (Nat.two_pow_pos k)
  unfold Format.nearest
  rw [if_neg (by omega), log_mul h0]
  have e1 : double.leastPlace = -1074 := by decide
  have e2 : double.infRung = 2047 * 4503599627370496 := by decide
  have e3 : double.binade = 4503599627370496 := by decide
  have e4 : (double.fractionBits : Int) = 52 := by decide
  rw [e1, e2, e3, e4]
  have hlast : max (-(k : Int) - 1 + ((n.log2 + k : Nat) : Int) - 52) (-1074) = (n.log2 : Int) - 53 := by omega
  simp only
  rw [hlast]
  by_cases hks : k ≤ 52 - n.log2
  · have a1 : (-(k : Int) - 1 - ((n.log2 : Int) - 53)).toNat = 52 - n.log2 - k := by omega
    have a2 : ((n.log2 : Int) - 53 - (-(k : Int) - 1)).toNat = 0 := by omega
    have a3 : ((n.log2 : Int) - 53 - -1074).toNat = n.log2 + 1021 := by omega
    rw [a1, a2, a3, cut_zero, Nat.shiftLeft_eq, Nat.mul_assoc, ← Nat.pow_add, show k + (52 - n.log2 - k) = 52 - n.log2 by omega]
    rw [Nat.min_eq_left (by unfold rungH at hr; omega)]
    rfl
  · have a1 : (-(k : Int) - 1 - ((n.log2 : Int) - 53)).toNat = 0 := by omega
    have a2 : ((n.log2 : Int) - 53 - (-(k : Int) - 1)).toNat = k - (52 - n.log2) := by omega
    have a3 : ((n.log2 : Int) - 53 - -1074).toNat = n.log2 + 1021 := by omega
    have e : n * 2 ^ k = (n * 2 ^ (52 - n.log2)) * 2 ^ (k - (52 - n.log2)) := by
      rw [Nat.mul_assoc, ← Nat.pow_add]
      congr 2
      omega
    have hlg : (n * 2 ^ k).log2 = n.log2 + k := log_mul h0 k
    rw [a1, a2, a3, Nat.shiftLeft_zero, e, cut_even s _ _ (by rw [← e, hlg]; omega)]
    rw [Nat.min_eq_left (by unfold rungH at hr; omega)]
    rfl

theorem read_half (s : Bool) {n : Nat} (h0 : 0 < n) (h : n < 9007199254740992) : double.read (double.word s (rungH n)) = .number s (n * 2 ^ (52 - n.log2)) ((n.log2 : Int) - 53) := by
  have hl := log_le h0 h
  obtain ⟨p1, p2⟩ := pow_split h0 hl
  have hr := rungH_lt h0 h
  have e1 : double.leastPlace = -1074 := by decide
  have e2 : double.infRung = 2047 * 4503599627370496 := by decide
  have e3 : double.binade = 4503599627370496 := by decide
  have e5 : double.signWeight = 9223372036854775808 := by decide
  obtain ⟨M, hM⟩ : ∃ M, M = n * 2 ^ (52 - n.log2) := ⟨_, rfl⟩
  obtain ⟨R, hR⟩ : ∃ R, R = rungH n := ⟨_, rfl⟩
  have hRM : R = (n.log2 + 1021) * 4503599627370496 + M := by rw [hR, hM]; rfl
  rw [← hM] at p1 p2 ⊢
  rw [← hR] at hr ⊢
  have hneg : (double.word s R / double.signWeight % 2 == 1) = s := by
    unfold Format.word
    rw [e5]
    cases s with
    | false => simp; omega
    | true => simp; omega
  have hrung : double.word s R % double.signWeight = R := by
    unfold Format.word
    rw [e5]
    cases s with
    | false => simp; omega
    | true => simp; omega
  unfold Format.read
  simp only [hneg, hrung]
  rw [e1, e2, e3, if_neg (by omega), if_pos (by omega)]
  have q1 : R % 4503599627370496 = M - 4503599627370496 := by omega
  have q2 : R / 4503599627370496 = n.log2 + 1022 := by omega
  rw [q1, q2, show 4503599627370496 + (M - 4503599627370496) = M by omega, show (-1074 : Int) + ((n.log2 + 1022 - 1 : Nat) : Int) = (n.log2 : Int) - 53 by omega]

/-- The word of a half. -/
abbrev halfC : Nat := 4602678819172646912
theorem read_halfC : double.read halfC = .number false 4503599627370496 (-53) := by decide +kernel

theorem read_zero (s : Bool) : double.read (double.word s 0) = .number s 0 (-1074) := by cases s <;> decide +kernel

/-- Numbers that stand apart. -/
theorem order_ne (s t : Bool) (m n p q : Nat) (h : m * 2 ^ q ≠ n * 2 ^ p) : Datum.order (.number s m (-(p : Int))) (.number t n (-(q : Int))) ≠ some .eq := by
  obtain ⟨P, hP⟩ : ∃ P : Nat, P = max p q := ⟨_, rfl⟩
  have hbase : min (-(p : Int)) (-(q : Int)) = -(P : Int) := by omega
  have u1 : (-(p : Int) - -(P : Int)).toNat = P - p := by omega
  have u2 : (-(q : Int) - -(P : Int)).toNat = P - q := by omega
  unfold Datum.order
  simp only
  rw [hbase, u1, u2]
  intro he
  have he' := Int.compare_eq_eq.1 (Option.some.inj he)
  have habs : ∀ (s : Bool) (m u : Nat), (signed s m u).natAbs = m * 2 ^ u := by
    intro s m u
    unfold signed
    rw [Nat.shiftLeft_eq]
    cases s <;> simp [Int.natAbs_mul, Int.natAbs_pow]
  have h9 := congrArg Int.natAbs he'
  rw [habs, habs] at h9
  apply h
  rcases Nat.le_total p q with hpq | hpq
  · rw [show P - q = 0 by omega, Nat.pow_zero, Nat.mul_one, show P - p = q - p by omega] at h9
    rw [← h9, Nat.mul_assoc, ← Nat.pow_add, show q - p + p = q by omega]
  · rw [show P - p = 0 by omega, Nat.pow_zero, Nat.mul_one, show P - q = p - q by omega] at h9
    rw [h9, Nat.mul_assoc, ← Nat.pow_add, show p - q + q = p by omega]

/-- A number between whole numbers is not what it is cut to. -/
theorem half_cut (s : Bool) {x : Nat} (h0 : 0 < x) (h : x < 9007199254740992) (hodd : x % 2 = 1) :
    double.order (double.word s (rungH x)) (double.write ((double.read (double.word s (rungH x))).integral .zero)) ≠ some .eq := by
  have hl := log_le h0 h
  show Datum.order (double.read (double.word s (rungH x))) (double.read (double.write ((double.read (double.word s (rungH x))).integral .zero))) ≠ some .eq
  rw [read_half s h0 h]
  obtain ⟨L, hL⟩ : ∃ L, L = x.log2 := ⟨_, rfl⟩
  have hi : Datum.integral .zero (.number s (x * 2 ^ (52 - x.log2)) ((x.log2 : Int) - 53)) = .number s (x / 2) 0 := by
    rw [← hL] at hl ⊢
    unfold Datum.integral
    have e1 : ((L : Int) - 53).toNat = 0 := by omega
    have e2 : (-((L : Int) - 53)).toNat = 53 - L := by omega
    simp only [e1, e2, Nat.shiftLeft_zero]
    unfold Toward.cut
    have hlg : 53 - L ≤ (x * 2 ^ (52 - L)).log2 + 2 := by rw [log_mul h0]; omega
    simp only [Nat.min_eq_left hlg, Nat.shiftLeft_eq, Nat.one_mul]
    have : x * 2 ^ (52 - L) / 2 ^ (53 - L) = x / 2 := by
      rw [show 53 - L = (52 - L) + 1 by omega, Nat.pow_succ, Nat.mul_comm x, Nat.mul_div_mul_left _ _ (Nat.two_pow_pos _)]
    rw [this]
    simp
  rw [hi]
  have hw : ∃ (K q : Nat), double.read (double.write (.number s (x / 2) 0)) = .number s K (-(q : Int)) ∧ K = x / 2 * 2 ^ q := by
    show ∃ (K q : Nat), double.read (double.nearest s (x / 2) 0) = .number s K (-(q : Int)) ∧ K = x / 2 * 2 ^ q
    by_cases hz : x / 2 = 0
    · rw [hz, nearest_zero, read_zero]
      obtain ⟨Q, hQ⟩ : ∃ Q : Nat, Q = 1074 := ⟨_, rfl⟩
      exact ⟨0, Q, by rw [hQ]; rfl, by rw [Nat.zero_mul]⟩
    · have := nearest_shift s (n := x / 2) (by omega) (by omega) 0
      rw [Nat.pow_zero, Nat.mul_one] at this
      have h2 := log_le (n := x / 2) (by omega) (by omega)
      rw [show double.nearest s (x / 2) 0 = double.word s (rungI (x / 2)) from this, read_rung s (by omega) (by omega)]
      exact ⟨_, 52 - (x / 2).log2, by congr 1; omega, rfl⟩
  obtain ⟨K, q, h1, h2⟩ := hw
  rw [h1, show ((x.log2 : Int) - 53) = -((53 - x.log2 : Nat) : Int) by omega]
  refine order_ne _ _ _ _ _ _ ?_
  rw [h2, show 53 - x.log2 = (52 - x.log2) + 1 by omega, Nat.pow_succ]
  intro he
  have e3 : x * 2 ^ (52 - x.log2) * 2 ^ q = x * (2 ^ (52 - x.log2) * 2 ^ q) := by rw [Nat.mul_assoc]
  have e4 : x / 2 * 2 ^ q * (2 ^ (52 - x.log2) * 2) = (x / 2 * 2) * (2 ^ (52 - x.log2) * 2 ^ q) := by
    rw [Nat.mul_assoc, Nat.mul_assoc, Nat.mul_comm (2 ^ q), Nat.mul_assoc, Nat.mul_comm 2 (2 ^ q), Nat.mul_comm 2 (2 ^ (52 - x.log2) * 2 ^ q), Nat.mul_assoc]
  rw [e3, e4] at he
  have := Nat.eq_of_mul_eq_mul_right (Nat.mul_pos (Nat.two_pow_pos _) (Nat.two_pow_pos _)) he
  omega

/-- A number of a great exponent stands beyond a range. -/
theorem order_out (s : Bool) (m : Nat) (p : Int) (hm : 4503599627370496 ≤ m) (hp : -31 ≤ p) (B : Datum) (hB : ∃ (t : Bool) (n : Nat) (q : Nat), B = .number t n (-(q : Int)) ∧ n ≤ 2097152 * 2 ^ q) :
    (s = false → Datum.order (.number s m p) B ≠ some .lt) ∧ (s = true → Datum.order (.number s m p) B ≠ some .gt) := by
  obtain ⟨t, n, q, rfl, hn⟩ := hB
  obtain ⟨P, hP⟩ : ∃ P : Nat, P = max (-p).toNat q := ⟨_, rfl⟩
  obtain ⟨base, hb⟩ : ∃ b, b = min p (-(q : Int)) := ⟨_, rfl⟩
  obtain ⟨a, ha⟩ : ∃ a : Nat, a = (p - base).toNat := ⟨_, rfl⟩
  obtain ⟨c, hc⟩ : ∃ c : Nat, c = (-(q : Int) - base).toNat := ⟨_, rfl⟩
  have hle : n * 2 ^ c ≤ m * 2 ^ a := by
    have h1 : n * 2 ^ c ≤ 2097152 * 2 ^ (q + c) := by
      rw [Nat.pow_add, ← Nat.mul_assoc]
      exact Nat.mul_le_mul_right _ hn
    have h2 : 2097152 * 2 ^ (q + c) ≤ 4503599627370496 * 2 ^ a := by
      rw [show (2097152 : Nat) = 2 ^ 21 by decide, show (4503599627370496 : Nat) = 2 ^ 52 by decide, ← Nat.pow_add, ← Nat.pow_add]
      exact Nat.pow_le_pow_right (by omega) (by omega)
    exact Nat.le_trans h1 (Nat.le_trans h2 (Nat.mul_le_mul_right _ hm))
  unfold Datum.order
  simp only
  rw [← hb, ← ha, ← hc]
  have hval : ∀ (s : Bool) (m u : Nat), signed s m u = if s then -((m * 2 ^ u : Nat) : Int) else ((m * 2 ^ u : Nat) : Int) := by
    intro s m u
    unfold signed
    rw [Nat.shiftLeft_eq]
  rw [hval, hval]
  have hle' : ((n * 2 ^ c : Nat) : Int) ≤ ((m * 2 ^ a : Nat) : Int) := Int.ofNat_le.2 hle
  have hX : (0 : Int) ≤ ((n * 2 ^ c : Nat) : Int) := Int.natCast_nonneg _
  generalize ((n * 2 ^ c : Nat) : Int) = X at *
  generalize ((m * 2 ^ a : Nat) : Int) = Y at *
  refine ⟨fun hs h9 => ?_, fun hs h9 => ?_⟩
  · subst hs
    have h8 := Int.compare_eq_lt.1 (Option.some.inj h9)
    cases t
    · have : Y < X := h8
      omega
    · have : Y < -X := h8
      omega
  · subst hs
    have h8 := Int.compare_eq_gt.1 (Option.some.inj h9)
    cases t
    · have : X < -Y := h8
      omega
    · have : -X < -Y := h8
      omega

theorem half_small {n : Int} (hn : n.natAbs < 4194304) : floatBits .add .f64 (fI n) halfC = some (double.word (decide (2 * n + 1 < 0)) (rungH (2 * n + 1).natAbs)) := by
  obtain ⟨s, m, p, h1, h2, h3, h4⟩ := fI_is (n := n) (by omega)
  show ((double.read (fI n)).sum (double.read halfC)).map double.write = _
  rw [h1, read_halfC]
  obtain ⟨P, hP⟩ : ∃ P : Nat, P = max p 53 := ⟨_, rfl⟩
  have hbase : min (-(p : Int)) (-53) = -(P : Int) := by omega
  have u1 : (-(p : Int) - -(P : Int)).toNat = P - p := by omega
  have u2 : ((-53 : Int) - -(P : Int)).toNat = P - 53 := by omega
  have w1 := signed_is s n p (P - p) h3
  rw [← h2, show p + (P - p) = P by omega] at w1
  have w2 : signed false 4503599627370496 (P - 53) = 2 ^ (P - 1) := by
    unfold signed
    rw [Nat.shiftLeft_eq, show (4503599627370496 : Nat) = 2 ^ 52 by decide, ← Nat.pow_add, show 52 + (P - 53) = P - 1 by omega]
    simp
  have htot : n * 2 ^ P + 2 ^ (P - 1) = (2 * n + 1) * 2 ^ (P - 1) := by
    have : (2 : Int) ^ P = 2 * 2 ^ (P - 1) := by rw [← Int.pow_succ']; congr 1; omega
    rw [this, Int.add_mul, Int.one_mul, Int.mul_comm 2 n, Int.mul_assoc]
  have hp : (0 : Int) < 2 ^ (P - 1) := Int.pow_pos (by omega)
  unfold Datum.sum
  simp only
  rw [hbase, u1, u2, w1, w2, htot, Option.map_some]
  have hne : (2 * n + 1) * 2 ^ (P - 1) ≠ 0 := Int.mul_ne_zero (by omega) (by omega)
  have hsg : decide ((2 * n + 1) * 2 ^ (P - 1) < 0) = decide (2 * n + 1 < 0) := by
    by_cases h : 2 * n + 1 < 0
    · simp only [h, decide_true]; exact decide_eq_true (Int.mul_neg_of_neg_of_pos h hp)
    · simp only [h, decide_false]; exact decide_eq_false (by have := Int.mul_nonneg (show 0 ≤ 2 * n + 1 by omega) (show (0 : Int) ≤ 2 ^ (P - 1) by omega); omega)
  rw [if_neg hne, hsg, Int.natAbs_mul, Int.natAbs_pow]
  show some (double.nearest (decide (2 * n + 1 < 0)) ((2 * n + 1).natAbs * 2 ^ (P - 1)) (-(P : Int))) = _
  rw [show -(P : Int) = -((P - 1 : Nat) : Int) - 1 by omega, nearest_half _ (by omega) (by omega)]

theorem half_great {n : Int} (hn : 4194304 ≤ n.natAbs) (hb : n.natAbs ≤ 18446744073709551616) : ∃ u s m p, floatBits .add .f64 (fI n) halfC = some u ∧ double.read u = .number s m p ∧ 4503599627370496 ≤ m ∧ -31 ≤ p := by
  by_cases hs : n.natAbs < 9007199254740992
  · have hl := log_le (n := n.natAbs) (by omega) hs
    have hr : double.read (fI n) = .number (decide (n < 0)) (n.natAbs * 2 ^ (52 - n.natAbs.log2)) (-((52 - n.natAbs.log2 : Nat) : Int)) := by
      rw [fI_word (by omega) hs, read_rung _ (by omega) hs]
      congr 1
      omega
    have w1 := signed_is (decide (n < 0)) n (52 - n.natAbs.log2) (53 - (52 - n.natAbs.log2)) (fun _ => rfl)
    have e1 : (-((52 - n.natAbs.log2 : Nat) : Int) - -53).toNat = 53 - (52 - n.natAbs.log2) := by omega
    have hbase : min (-((52 - n.natAbs.log2 : Nat) : Int)) (-53) = -53 := by omega
    rw [show 52 - n.natAbs.log2 + (53 - (52 - n.natAbs.log2)) = 53 by omega] at w1
    have hT : ((double.read (fI n)).sum (double.read halfC)).map double.write = some (double.nearest (decide ((2 * n + 1) * 4503599627370496 < 0)) ((2 * n + 1) * 4503599627370496).natAbs (-53)) := by
      rw [hr, read_halfC]
      unfold Datum.sum
      simp only
      rw [hbase, e1, w1]
      have e2 : signed false 4503599627370496 ((-53 : Int) - -53).toNat = 4503599627370496 := by decide
      rw [e2, show n * 2 ^ 53 + 4503599627370496 = (2 * n + 1) * 4503599627370496 by omega, if_neg (by omega), Option.map_some]
      rfl
    have hlog : 74 ≤ ((2 * n + 1) * 4503599627370496).natAbs.log2 := (Nat.le_log2 (by omega)).2 (by omega)
    have hlog2 : ((2 * n + 1) * 4503599627370496).natAbs.log2 < 120 := (Nat.log2_lt (by omega)).2 (by omega)
    obtain ⟨m, p, h1, h2, h3⟩ := near_big (decide ((2 * n + 1) * 4503599627370496 < 0)) ((2 * n + 1) * 4503599627370496).natAbs 53 (by omega) (by omega) (by omega) (by omega) (by omega)
    exact ⟨_, _, m, p, hT, h1, h2, h3⟩
  · obtain ⟨m, p, hr, h1, h2, h3, h4⟩ := great (n := n) (by omega) hb
    obtain ⟨q, rfl⟩ := Int.eq_ofNat_of_zero_le (show 0 ≤ p by omega)
    have hq : (2 : Nat) ^ (q + 53) ≤ 2 ^ 117 := Nat.pow_le_pow_right (by omega) (by omega)
    have hq2 : (2 : Nat) ^ 54 ≤ 2 ^ (q + 53) := Nat.pow_le_pow_right (by omega) (by omega)
    obtain ⟨Q, hQ⟩ : ∃ Q, Q = (2 : Nat) ^ (q + 53) := ⟨_, rfl⟩
    obtain ⟨M, hM⟩ : ∃ M, M = m * Q := ⟨_, rfl⟩
    rw [← hQ] at hq hq2
    have hM1 : 4503599627370496 * 2 ^ 54 ≤ M := by rw [hM]; exact Nat.mul_le_mul h1 hq2
    have hM2 : M ≤ 9007199254740992 * 2 ^ 117 := by rw [hM]; exact Nat.mul_le_mul (by omega) hq
    have hbase : min ((q : Nat) : Int) (-53) = -53 := by omega
    have e1 : (((q : Nat) : Int) - -53).toNat = q + 53 := by omega
    have e2 : signed false 4503599627370496 ((-53 : Int) - -53).toNat = 4503599627370496 := by decide
    obtain ⟨X, hX⟩ : ∃ X : Int, X = signed (decide (n < 0)) m (q + 53) + 4503599627370496 := ⟨_, rfl⟩
    have hXv : X = (if n < 0 then -(M : Int) else (M : Int)) + 4503599627370496 := by
      rw [hX, hM, hQ]
      unfold signed
      rw [Nat.shiftLeft_eq]
      by_cases hn0 : n < 0 <;> simp [hn0]
    have hT : ((double.read (fI n)).sum (double.read halfC)).map double.write = some (double.nearest (decide (X < 0)) X.natAbs (-53)) := by
      rw [hr, read_halfC]
      unfold Datum.sum
      simp only
      rw [hbase, e1, e2, ← hX, if_neg (by split at hXv <;> omega), Option.map_some]
      rfl
    have hlog : 74 ≤ X.natAbs.log2 := (Nat.le_log2 (by split at hXv <;> omega)).2 (by split at hXv <;> omega)
    have hlog2 : X.natAbs.log2 < 180 := (Nat.log2_lt (by split at hXv <;> omega)).2 (by split at hXv <;> omega)
    obtain ⟨m', p', h1', h2', h3'⟩ := near_big (decide (X < 0)) X.natAbs 53 (by split at hXv <;> omega) (by omega) (by omega) (by omega) (by omega)
    exact ⟨_, _, m', p', hT, h1', h2', h3'⟩

end Go.Proofs.YtpilfhjlfbjloaaGreatDoor

namespace Go.Proofs.YtpilfhjlfbjloaaGreatDoor
open Go.RowKit

theorem arch_call (v : Value) (w : World) : (callFunc 102 #[v]).run Tryz.prog w = (do let r ← Go.Extern.MathFloor.toIntegral "math.archTrunc" .zero #[v]; pure (Next.value r) : Sem Next).run Tryz.prog w := by kernel_rfl

/-- What a float is cut to. -/
def cutF (u : Nat) : Nat := Ieee.double.write ((Ieee.double.read u).integral .zero)

theorem arch_num {u : Nat} {s : Bool} {m : Nat} {p : Int} (h : Ieee.double.read u = .number s m p) (w : World) : (callFunc 102 #[.float .f64 u]).run Tryz.prog w = .ok (.value (.float .f64 (cutF u))) w := by
  rw [arch_call]
  have hd : FloatKind.f64.decode u = .number s m p := h
  unfold cutF
  rw [h]
  have key : ∀ D : Ieee.Datum, D = .number s m p → FloatKind.f64.decode u = D → (do let r ← Go.Extern.MathFloor.toIntegral "math.archTrunc" .zero #[.float .f64 u]; pure (Next.value r) : Sem Next).run Tryz.prog w = .ok (.value (.float .f64 (Ieee.double.write (D.integral .zero)))) w := by
    intro D hD hx
    delta Go.Extern.MathFloor.toIntegral
    change Sem.run _ (Bind.bind (Go.Extern.MathFloor.toIntegral.match_1 (fun _ => Sem Value) (FloatKind.f64.decode u) _ _) _) w = _
    rw [hx, hD]
    rfl
  exact key _ rfl hd

/-- A float that is a number. -/
def Numb (u : Nat) : Prop := ∃ s m p, Ieee.double.read u = .number s m p
/-- May a float be a part? -/
def mayF (u : Nat) : Bool := (FloatKind.f64.format.order u (cutF u) == some .eq) && (FloatKind.f64.format.order u 13920626448202203136 == some .gt) && (FloatKind.f64.format.order u 4697254411347427328 == some .lt)

set_option maxRecDepth 100000 in
set_option maxHeartbeats 800000 in
theorem trunc_num {u : Nat} (h : Numb u) (w : World) : Calls Tryz.prog 77 #[.float .f64 u] w fun e w' => e = .returned (.float .f64 (cutF u)) ∧ w' = w := by
  obtain ⟨s, m, p, h⟩ := h
  have hx := fun w => arch_num h w
  clear h
  go_enter Tryz.func77, Tryz.ntmps77
  go_wp2
  go_ret
  exact ⟨rfl, rfl⟩

set_option maxRecDepth 100000 in
set_option maxHeartbeats 800000 in
theorem whole_num {u : Nat} (h : Numb u) (w : World) : Calls Tryz.prog 47 #[.float .f64 u] w fun e w' => e = .returned (.bool (mayF u)) ∧ w' = w := by
  obtain ⟨t, ht⟩ : ∃ t, t = cutF u := ⟨_, rfl⟩
  have H := hide (trunc_num h w)
  rw [← ht] at H
  unfold mayF
  rw [← ht]
  clear h ht
  cases h1 : (FloatKind.f64.format.order u t == some .eq)
  · rw [Bool.false_and, Bool.false_and]
    go_enter Tryz.func47, Tryz.ntmps47
    go_wp2_with fail
    refine H.out.mono ?_
    rintro e w' ⟨rfl, rfl⟩
    go_wp2
    go_ret
    exact ⟨by simp, rfl⟩
  · cases h2 : (FloatKind.f64.format.order u 13920626448202203136 == some .gt)
    · rw [Bool.and_false, Bool.false_and]
      go_enter Tryz.func47, Tryz.ntmps47
      go_wp2_with fail
      refine H.out.mono ?_
      rintro e w' ⟨rfl, rfl⟩
      go_wp2
      go_ret
      exact ⟨by simp, rfl⟩
    · rw [Bool.and_self, Bool.true_and]
      go_enter Tryz.func47, Tryz.ntmps47
      go_wp2_with fail
      refine H.out.mono ?_
      rintro e w' ⟨rfl, rfl⟩
      go_wp2
      go_ret
      exact ⟨rfl, rfl⟩

set_option maxRecDepth 100000 in
set_option maxHeartbeats 800000 in
theorem gmay_num {u v : Nat} (hu : Numb u) (hv : Numb v) (w : World) : Calls Tryz.prog 17 #[.complex .f64 u v] w fun e w' => e = .returned (.bool (mayF u && mayF v)) ∧ w' = w := by
  have H1 := hide (whole_num hu w)
  have H2 := hide (whole_num hv w)
  clear hu hv
  cases hm : mayF u with
  | false =>
    rw [hm] at H1
    go_enter Tryz.func17, Tryz.ntmps17
    go_wp2_with fail
    refine H1.out.mono ?_
    rintro e w' ⟨rfl, rfl⟩
    go_wp2
    go_ret
    exact ⟨by simp, rfl⟩
  | true =>
    rw [hm] at H1
    go_enter Tryz.func17, Tryz.ntmps17
    go_wp2_with fail
    refine H1.out.mono ?_
    rintro e w' ⟨rfl, rfl⟩
    go_wp2_with fail
    refine H2.out.mono ?_
    rintro e w'' ⟨rfl, rfl⟩
    go_wp2
    go_ret
    exact ⟨by simp, rfl⟩

/-- May a part be? -/
def mayB (a : Int) : Bool := decide (-1048576 < a) && decide (a < 1048576)

theorem numb_fI {n : Int} (hn : n.natAbs ≤ 18446744073709551616) : Numb (fI n) := by
  by_cases h : n.natAbs < 9007199254740992
  · obtain ⟨s, m, p, h1, -⟩ := fI_is h
    exact ⟨s, m, _, h1⟩
  · obtain ⟨m, p, h1, -⟩ := great (n := n) (by omega) hn
    exact ⟨_, m, p, h1⟩

theorem lo_is : Ieee.double.read 13920626448202203136 = .number true 4503599627370496 (-32) := by decide +kernel
theorem hi_is : Ieee.double.read 4697254411347427328 = .number false 4503599627370496 (-32) := by decide +kernel

/-- Beyond the range. -/
theorem may_out {u : Nat} {s : Bool} {m : Nat} {p : Int} (h : Ieee.double.read u = .number s m p) (hm : 4503599627370496 ≤ m) (hp : -31 ≤ p) : mayF u = false := by
  unfold mayF
  have h1 := order_out s m p hm hp (.number true 4503599627370496 (-32)) ⟨true, 4503599627370496, 32, rfl, by decide⟩
  have h2 := order_out s m p hm hp (.number false 4503599627370496 (-32)) ⟨false, 4503599627370496, 32, rfl, by decide⟩
  have e1 : FloatKind.f64.format.order u 13920626448202203136 = Ieee.Datum.order (.number s m p) (.number true 4503599627370496 (-32)) := by
    show Ieee.Datum.order (Ieee.double.read u) (Ieee.double.read 13920626448202203136) = _
    rw [h, lo_is]
  have e2 : FloatKind.f64.format.order u 4697254411347427328 = Ieee.Datum.order (.number s m p) (.number false 4503599627370496 (-32)) := by
    show Ieee.Datum.order (Ieee.double.read u) (Ieee.double.read 4697254411347427328) = _
    rw [h, hi_is]
  rw [e1, e2]
  cases s with
  | true => simp [h1.2 rfl]
  | false => simp [h2.1 rfl]

theorem may_fI {n : Int} (hn : n.natAbs ≤ 18446744073709551616) : mayF (fI n) = mayB n := by
  by_cases hs : n.natAbs < 9007199254740992
  · unfold mayF mayB
    have hc : cutF (fI n) = fI n := trunc_is (fI_is hs) hs
    rw [hc]
    have o1 : FloatKind.f64.format.order (fI n) (fI n) = some (compare n n) := fI_order hs hs
    have o2 := fI_order (y := -1048576) hs (by decide)
    have o3 := fI_order (y := 1048576) hs (by decide)
    rw [o1, show FloatKind.f64.format.order (fI n) 13920626448202203136 = some (compare n (-1048576)) from o2, show FloatKind.f64.format.order (fI n) 4697254411347427328 = some (compare n 1048576) from o3]
    have c1 : (some (compare n (-1048576)) == some Ordering.gt) = decide (-1048576 < n) := by
      by_cases h : -1048576 < n
      · rw [Int.compare_eq_gt.2 h]; simp [h]
      · have h9 : compare n (-1048576) ≠ .gt := fun e => h (Int.compare_eq_gt.1 e)
        simp [h, h9]
    have c2 : (some (compare n 1048576) == some Ordering.lt) = decide (n < 1048576) := by
      by_cases h : n < 1048576
      · rw [Int.compare_eq_lt.2 h]; simp [h]
      · have h9 : compare n 1048576 ≠ .lt := fun e => h (Int.compare_eq_lt.1 e)
        simp [h, h9]
    rw [c1, c2]
    simp
  · obtain ⟨m, p, h1, h2, h3, -⟩ := great (n := n) (by omega) hn
    rw [may_out h1 h2 (by omega)]
    unfold mayB
    simp
    omega

/-- A whole number and a half. -/
theorem half_may {n : Int} (hn : n.natAbs ≤ 18446744073709551616) : ∃ u, floatBits .add .f64 (fI n) halfC = some u ∧ Numb u ∧ mayF u = false := by
  by_cases hs : n.natAbs < 4194304
  · refine ⟨_, half_small hs, ⟨_, _, _, read_half _ (by omega) (by omega)⟩, ?_⟩
    have := half_cut (decide (2 * n + 1 < 0)) (x := (2 * n + 1).natAbs) (by omega) (by omega) (by omega)
    unfold mayF cutF
    rw [show (FloatKind.f64.format.order _ _ == some .eq) = false from beq_eq_false_iff_ne.2 this]
    rfl
  · obtain ⟨u, s, m, p, h1, h2, h3, h4⟩ := half_great (n := n) (by omega) hn
    exact ⟨u, h1, ⟨s, m, p, h2⟩, may_out h2 h3 h4⟩

theorem gmay_any (a b : Int) (ha : a.natAbs ≤ 18446744073709551616) (hb : b.natAbs ≤ 18446744073709551616) (w : World) : Calls Tryz.prog 17 #[.complex .f64 (fI a) (fI b)] w fun e w' => e = .returned (.bool (mayB a && mayB b)) ∧ w' = w := by
  have := gmay_num (numb_fI ha) (numb_fI hb) w
  rwa [may_fI ha, may_fI hb] at this

end Go.Proofs.YtpilfhjlfbjloaaGreatDoor
