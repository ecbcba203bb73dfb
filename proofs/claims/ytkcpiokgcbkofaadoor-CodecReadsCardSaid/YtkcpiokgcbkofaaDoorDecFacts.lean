/-
  Which values words have: plain functions, no program in sight. Conditions: none.
-/
import Derived.Test.YtkcpiokgcbkofaaDoorPlacesFacts
namespace Go.Proofs.YtkcpiokgcbkofaaDoor
open Go.RowKit

/-- A number as a float64. -/
def fltS (z : Int) : Nat := floatOfInt FloatKind.f64 z

/-- What a part's value is. -/
def getV (k ln : Int) (bit x : Nat) : Int × Nat × Nat :=
  if k = 3 then (0, fltS (sgnS 0 32 x), fltS (sgnS 32 32 x)) else if k = 2 then (sgnS bit ln.toNat x, 0, 0) else (wrap64 (getS bit ln.toNat x), 0, 0)

/-- Words without one part. -/
def clear1 (ws : List Nat) (x : (Int × Int) × (Nat × Nat)) : List Nat := ws.set x.2.1 (setS x.2.2 x.1.2.toNat (ws.getD x.2.1 0) 0)
/-- Words without parts. -/
def clearS (l : List ((Int × Int) × (Nat × Nat))) (ws : List Nat) : List Nat := l.foldl clear1 ws
/-- One part's value. -/
def valS (ws : List Nat) (x : (Int × Int) × (Nat × Nat)) : Int × Nat × Nat := getV x.1.1 x.1.2 x.2.2 (ws.getD x.2.1 0)

/-- Decode: the values of words. -/
def decodeS (ps : List (Int × Int)) (ws : List Nat) : Except Int (List (Int × Nat × Nat)) :=
  match placesS ps with
  | .error c => .error c
  | .ok (pl, m) => if ws.length ≠ m then .error 17 else if (clearS (ps.zip pl) ws).all (· == 0) then .ok ((ps.zip pl).map (valS ws)) else .error 11

theorem clearS_snoc (l : List ((Int × Int) × (Nat × Nat))) (x : (Int × Int) × (Nat × Nat)) (ws : List Nat) : clearS (l ++ [x]) ws = clear1 (clearS l ws) x := by
  simp [clearS, List.foldl_append]

theorem clearS_len (l : List ((Int × Int) × (Nat × Nat))) : ∀ ws : List Nat, (clearS l ws).length = ws.length := by
  induction l with
  | nil => intro ws; rfl
  | cons x l ih => intro ws; rw [show clearS (x :: l) ws = clearS l (clear1 ws x) from rfl, ih]; simp [clear1]

/-- The word without a part, as the program makes it. -/
theorem clear_eq (a n : Int) (x : Nat) (ha : 0 ≤ a) (hn : 1 ≤ n) (h : a + n ≤ 64) (hx : x < 18446744073709551616) :
    bits .andNot .u64 (x : Int) (IntKind.u64.wrap (((2 ^ n.toNat - 1 : Nat) : Int) * 2 ^ a.toNat)) = setS a.toNat n.toNat x 0 := by
  obtain ⟨p, rfl⟩ := Int.eq_ofNat_of_zero_le ha
  obtain ⟨q, rfl⟩ := Int.eq_ofNat_of_zero_le (show 0 ≤ n by omega)
  have hpq : p + q ≤ 64 := by omega
  simp only [Int.toNat_natCast]
  have hm := mask_lt hpq
  have e1 : IntKind.u64.wrap (((2 ^ q - 1 : Nat) : Int) * 2 ^ p) = (((2 ^ q - 1) * 2 ^ p : Nat) : Int) := by
    rw [IntKind.wrap_u64]
    have : (((2 ^ q - 1 : Nat) : Int) * 2 ^ p) = (((2 ^ q - 1) * 2 ^ p : Nat) : Int) := by simp
    rw [this]
    omega
  rw [e1, u64_andNot_nat _ _ hx (by omega)]
  have hs := set_nat (y := 0) hpq (show x < 2 ^ 64 by omega)
  rw [Nat.zero_mod, Nat.zero_mul, Nat.or_zero] at hs
  rw [← hs]

end Go.Proofs.YtkcpiokgcbkofaaDoor
