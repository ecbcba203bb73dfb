/-
  A float64 that is made of a whole number is the same as itself. Conditions: none.
-/
import Derived.Test.YtkcpiokgcbkofaaDoorDecFacts
namespace Go.Proofs.YtkcpiokgcbkofaaDoor
open Go.RowKit

theorem order_self (d : Ieee.Datum) (h : ∀ s t, d ≠ .nan s t) : d.order d = some .eq := by
  cases d with
  | nan s t => exact absurd rfl (h s t)
  | infinity s => simp [Ieee.Datum.order]
  | number s m i => simp [Ieee.Datum.order]

theorem read_word (f : Ieee.Format) (neg : Bool) (r : Nat) (hr : r ≤ f.infRung) : ∀ s t, f.read (f.word neg r) ≠ .nan s t := by
  have hpos : 0 < f.binade := Nat.two_pow_pos _
  have hlt : f.infRung < f.signWeight := by
    unfold Ieee.Format.infRung Ieee.Format.signWeight
    rw [Nat.pow_add, show (2 : Nat) ^ f.fractionBits = f.binade from rfl]
    exact Nat.mul_lt_mul_of_pos_right (Nat.sub_lt (Nat.two_pow_pos _) (by decide)) hpos
  have e : f.word neg r % f.signWeight = r := by
    unfold Ieee.Format.word
    split
    · rw [Nat.add_mod_left, Nat.mod_eq_of_lt (by omega)]
    · exact Nat.mod_eq_of_lt (by omega)
  intro s t
  unfold Ieee.Format.read
  simp only [e]
  by_cases h1 : r < f.binade
  · rw [if_pos h1]; simp
  · rw [if_neg h1]
    by_cases h2 : r < f.infRung
    · rw [if_pos h2]; simp
    · rw [if_neg h2, if_pos (by omega)]; simp

theorem flt_order (z : Int) : FloatKind.f64.format.order (fltS z) (fltS z) = some .eq := by
  unfold Ieee.Format.order
  refine order_self _ ?_
  show ∀ s t, FloatKind.f64.format.read (FloatKind.f64.format.nearest (z < 0) z.natAbs 0) ≠ .nan s t
  unfold Ieee.Format.nearest
  split
  · exact read_word _ _ _ (Nat.zero_le _)
  · exact read_word _ _ _ (Nat.min_le_right _ _)

theorem zero_order : FloatKind.f64.format.order 0 0 = some .eq := by decide +kernel

end Go.Proofs.YtkcpiokgcbkofaaDoor
