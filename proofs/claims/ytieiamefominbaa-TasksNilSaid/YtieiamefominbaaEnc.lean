/-
  The walks of codec.Encode at values that have a record. Conditions: each value is what its part may have.
-/
import Derived.Test.YtieiamefominbaaPlaces
import Derived.Test.YtieiamefominbaaBits
namespace Go.Proofs.Ytieiamefominbaa
open Go.RowKit

set_option maxHeartbeats 400000 in
theorem set_any (a n : Int) (x y : Nat) (w : World) (ha : 0 ≤ a) (hn : 1 ≤ n) (h : a + n ≤ 64) (hx : x < 18446744073709551616) (hy : y < 18446744073709551616) :
    Calls Try.prog 71 #[.agg #[.int .i64 a, .int .i64 n], .int .u64 x, .int .u64 y] w fun e w' => e = .returned (.int .u64 (setS a.toNat n.toNat x y)) ∧ Below w.heap.size w w' := by
  have Hx := hide hx
  have Hy := hide hy
  clear hx hy
  go_enter Try.func71, Try.ntmps71
  go_wp2_with fail
  refine wp_region_ext (by kernel_rfl) (by kernel_rfl) ?_
  repeat (first
    | go_big_quiet_skip
    | (go_big_quiet_want
       first
         | (apply quiet_val
            · intro wq hq
              have hcq := hq.cells
              have hzq := hq.lift
              go_simp
              try go_bits
              first | done | with_reducible rfl
            (try simp only [Act.put, List.setIfInBounds_toArray, List.set_cons_zero, List.set_cons_succ])
            go_big_quiet_on)
         | (apply quiet_call
            · intro wq hq
              have hcq := hq.cells
              have hzq := hq.lift
              go_simp
              first
                | (go_at_call 51; exact (max_any _ _ _ ha hn h).mono fun e w' hp => ⟨hp.1, hq.call hp.2⟩)
            (try simp only [Act.put, List.setIfInBounds_toArray, List.set_cons_zero, List.set_cons_succ])
            go_big_quiet_on)))
  refine wpQuiet_nil ?_
  intro wz hz
  go_wp2
  go_ret
  exact ⟨by simpa using set_eq a n x y ha hn h Hx.out Hy.out, ((Below.refl _ _).alloc (Nat.le_refl _) _).trans (hz.below.mono (by simp))⟩

set_option maxHeartbeats 400000 in
theorem put_ok (a n : Int) (x y : Nat) (w : World) (ha : 0 ≤ a) (hn : 1 ≤ n) (h : a + n ≤ 64) (hx : x < 18446744073709551616) (hy : y ≤ 2 ^ n.toNat - 1) :
    Calls Try.prog 68 #[.agg #[.int .i64 a, .int .i64 n], .int .u64 x, .int .u64 y] w fun e w' => e = .returned (.tuple #[.int .u64 (setS a.toNat n.toNat x y), .int .i64 0]) ∧ Below w.heap.size w w' := by
  have h2 : 2 ^ n.toNat ≤ 2 ^ 64 := Nat.pow_le_pow_right (by omega) (by omega)
  have h3 : 0 < 2 ^ n.toNat := Nat.two_pow_pos _
  have hy' : y < 18446744073709551616 := by omega
  have hcmp : decide (2 ^ n.toNat - 1 < y) = false := by simp; omega
  have Hy := hide hy'
  have Hx := hide hx
  clear h2 h3 hy hy' hx
  go_enter Try.func68, Try.ntmps68
  go_wp2_with (first
    | (go_at_call 64; refine (may_any _ _ _ ha hn h).mono ?_; rintro e w1 ⟨rfl, hb1⟩; obtain ⟨hc1, hf1, hz1⟩ := bcell hb1)
    | (go_at_call 51; refine (max_any _ _ _ ha hn h).mono ?_; rintro e w2 ⟨rfl, hb2⟩; obtain ⟨hc2, hf2, hz2⟩ := bcell hb2)
    | (go_at_call 71; refine (set_any _ _ _ _ _ ha hn h Hx.out Hy.out).mono ?_; rintro e w3 ⟨rfl, hb3⟩; obtain ⟨hc3, hf3, hz3⟩ := bcell hb3))
  go_ret2
  exact ⟨by simp, ((Below.refl _ _).alloc (Nat.le_refl _) _).trans ((hb1.mono (by simp)).trans ((hb2.mono (by have := hb1.size; simp at this; omega)).trans (hb3.mono (by have := hb1.size; have := hb2.size; simp at *; omega))))⟩

set_option maxHeartbeats 400000 in
theorem putsigned_ok (a n : Int) (x : Nat) (X : Int) (hX : X = x) (z : Int) (w : World) (ha : 0 ≤ a) (hn : 1 ≤ n) (h : a + n ≤ 64) (hx : x < 18446744073709551616) (h1 : -2 ^ (n.toNat - 1) ≤ z) (h2 : z < 2 ^ (n.toNat - 1)) :
    Calls Try.prog 67 #[.agg #[.int .i64 a, .int .i64 n], .int .u64 X, .int .i64 z] w fun e w' => e = .returned (.tuple #[.int .u64 (setS a.toNat n.toNat x (uw z)), .int .i64 0]) ∧ Below w.heap.size w w' := by
  subst hX
  have hs := sgn_set (a := a.toNat) (n := n.toNat) (x := x) (z := z) (by omega) (by omega) h1 h2
  have hcmp : (sgnS a.toNat n.toNat (setS a.toNat n.toNat x (uw z)) != z) = false := by rw [hs]; simp
  have hlt := setS_lt (a := a.toNat) (n := n.toNat) (x := x) (y := uw z) (by omega) hx
  have Hlt := hide hlt
  have Hx := hide hx
  have huw := uw_eq z
  clear hs hlt hx h1 h2
  go_enter Try.func67, Try.ntmps67
  go_wp2_with (first
    | (go_at_call 64; refine (may_any _ _ _ ha hn h).mono ?_; rintro e w1 ⟨rfl, hb1⟩; obtain ⟨hc1, hf1, hz1⟩ := bcell hb1)
    | (go_at_call 71; refine (set_any _ _ _ _ _ ha hn h Hx.out (uw_lt _)).mono ?_; rintro e w2 ⟨rfl, hb2⟩; obtain ⟨hc2, hf2, hz2⟩ := bcell hb2)
    | (go_at_call 62; refine (signed_any _ _ _ _ ha hn h Hlt.out).mono ?_; rintro e w3 ⟨rfl, hb3⟩; obtain ⟨hc3, hf3, hz3⟩ := bcell hb3))
  go_ret2
  exact ⟨by simp, ((Below.refl _ _).alloc (Nat.le_refl _) _).trans ((hb1.mono (by simp)).trans ((hb2.mono (by have := hb1.size; simp at this; omega)).trans (hb3.mono (by have := hb1.size; have := hb2.size; simp at *; omega))))⟩

/-- A float that is a whole number which a Point may have. -/
structure Half (x : Nat) (n : Int) : Prop where
  ge : (FloatKind.f64.format.order x 13970166044103278592 == some .gt || FloatKind.f64.format.order x 13970166044103278592 == some .eq) = true
  lt : (FloatKind.f64.format.order x 4746794007248502784 == some .lt) = true
  val : floatToIntVal .f64 x .i64 = some n
  eq : (FloatKind.f64.format.order x (floatOfInt .f64 n) == some .eq) = true
  lo : -2147483648 ≤ n
  hi : n < 2147483648

set_option maxHeartbeats 400000 in
theorem half_ok (x : Nat) (n : Int) (w : World) (h : Half x n) :
    Calls Try.prog 70 #[.float .f64 x] w fun e w' => e = .returned (.tuple #[.int .i64 n, .bool true]) ∧ w = w' := by
  have h1 := h.ge
  have h2 := h.lt
  have h3 := h.eq
  have hcv := fun w : World => run_convert_float_int (P := Try.prog) w 65 2 .f64 .i64 x n (by kernel_rfl) (by kernel_rfl) h.val
  clear h
  go_enter Try.func70, Try.ntmps70
  go_wp2
  go_ret2
  exact ⟨by simp, rfl⟩

set_option maxHeartbeats 400000 in
theorem halves_any (w : World) : Calls Try.prog 61 #[] w fun e w' => e = .returned (.tuple #[.agg #[.int .i64 0, .int .i64 32], .agg #[.int .i64 32, .int .i64 32]]) ∧ Below w.heap.size w w' := by
  go_enter Try.func61, Try.ntmps61
  go_wp2
  exact bodyPost_ret (v := .tuple #[.agg #[.int .i64 0, .int .i64 32], .agg #[.int .i64 32, .int .i64 32]]) (by simp [results, Try.results61, go_sem]) rfl ⟨rfl, ((Below.refl _ _).alloc (Nat.le_refl _) _).alloc (by simp) _⟩

set_option maxRecDepth 100000 in
set_option maxHeartbeats 800000 in
theorem point_ok (re im : Nat) (a b : Int) (w : World) (ha : Half re a) (hb : Half im b) :
    Calls Try.prog 66 #[.agg #[.int .i64 0, .complex .f64 re im]] w fun e w' => e = .returned (.tuple #[.int .u64 (setS 32 32 (setS 0 32 0 (uw a)) (uw b)), .int .i64 0]) ∧ Below w.heap.size w w' := by
  have hlt := setS_lt (a := 0) (n := 32) (x := 0) (y := uw a) (by omega) (by omega)
  have Hlt := hide hlt
  clear hlt
  go_enter Try.func66, Try.ntmps66
  go_wp2_with fail
  refine (half_ok _ _ _ ha).mono ?_
  rintro e w' ⟨rfl, rfl⟩
  go_wp2_with fail
  refine (half_ok _ _ _ hb).mono ?_
  rintro e w' ⟨rfl, rfl⟩
  go_wp2_with fail
  refine (halves_any _).mono ?_
  rintro e w1 ⟨rfl, hb1⟩
  obtain ⟨hc1, hf1, hz1⟩ := bcell hb1
  go_wp2_with fail
  refine (putsigned_ok 0 32 0 0 rfl a _ (by omega) (by omega) (by omega) (by omega) ha.lo ha.hi).mono ?_
  rintro e w2 ⟨rfl, hb2⟩
  obtain ⟨hc2, hf2, hz2⟩ := bcell hb2
  go_wp2_with fail
  refine (putsigned_ok 32 32 (setS 0 32 0 (uw a)) _ rfl b _ (by omega) (by omega) (by omega) Hlt.out hb.lo hb.hi).mono ?_
  rintro e w3 ⟨rfl, hb3⟩
  obtain ⟨hc3, hf3, hz3⟩ := bcell hb3
  go_wp2
  go_ret2
  exact ⟨rfl, below3 (below_new w _) (below3 hb1 (below_new2 _ _ _) hb2) hb3⟩

/-- A complex number that is 0. -/
def zeroZ (re im : Nat) : Bool := FloatKind.f64.format.order re 0 == some .eq && FloatKind.f64.format.order im 0 == some .eq

/-- A value that its part may have, and the word with it. -/
structure PutOk (k ln : Int) (bit x : Nat) (v : Int × Nat × Nat) (y : Nat) : Prop where
  point : k = 3 → v.1 = 0 ∧ ∃ a b, Half v.2.1 a ∧ Half v.2.2 b ∧ y = setS 32 32 (setS 0 32 0 (uw a)) (uw b)
  zero : k ≠ 3 → zeroZ v.2.1 v.2.2 = true
  whole : k = 2 → -2 ^ (ln.toNat - 1) ≤ v.1 ∧ v.1 < 2 ^ (ln.toNat - 1) ∧ y = setS bit ln.toNat x (uw v.1)
  count : k ≠ 3 → k ≠ 2 → 0 ≤ v.1 ∧ v.1.toNat ≤ 2 ^ ln.toNat - 1 ∧ y = setS bit ln.toNat x v.1.toNat

set_option maxRecDepth 100000 in
set_option maxHeartbeats 800000 in
theorem partput_ok (k ln : Int) (bit x : Nat) (n : Int) (re im y : Nat) (w : World) (hn : 1 ≤ ln) (hb : (bit : Int) + ln ≤ 64) (hx : x < 18446744073709551616) (h : PutOk k ln bit x (n, re, im) y) :
    Calls Try.prog 54 #[.agg #[.int .i64 k, .int .i64 ln], .int .u64 x, .int .i64 bit, .agg #[.int .i64 n, .complex .f64 re im]] w fun e w' => e = .returned (.tuple #[.int .u64 y, .int .i64 0]) ∧ Below w.heap.size w w' := by
  have H := hide h
  have Hx := hide hx
  clear h hx
  by_cases h3 : k = 3
  · subst h3
    obtain ⟨rfl, a, b, ha, hb', hy⟩ := H.out.point rfl
    subst hy
    clear H Hx
    go_enter Try.func54, Try.ntmps54
    go_wp2_with fail
    refine (point_ok _ _ a b _ ha hb').mono ?_
    rintro e w1 ⟨rfl, hb1⟩
    obtain ⟨hc1, hf1, hz1⟩ := bcell hb1
    go_wp2
    go_ret2
    exact ⟨rfl, below2 (below2 (below_new2 w _ _) (below_new _ _)) hb1⟩
  · have hk3 : (k == 3) = false := by simpa using h3
    have hz := H.out.zero h3
    have hz' : (FloatKind.f64.format.order re 0 == some .eq && FloatKind.f64.format.order im 0 == some .eq) = true := hz
    clear hz
    by_cases h2 : k = 2
    · subst h2
      obtain ⟨hlo, hhi, hy⟩ := H.out.whole rfl
      subst hy
      clear H
      have Hlo := hide hlo
      have Hhi := hide hhi
      clear hlo hhi hk3 h3
      go_enter Try.func54, Try.ntmps54
      go_wp2_with fail
      refine (putsigned_ok _ _ x _ rfl n _ (by omega) (by omega) (by omega) Hx.out Hlo.out Hhi.out).mono ?_
      rintro e w1 ⟨rfl, hb1⟩
      obtain ⟨hc1, hf1, hz1⟩ := bcell hb1
      go_wp2
      go_ret2
      exact ⟨by simp, below2 (below2 (below_new2 w _ _) (below_new _ _)) hb1⟩
    · have hk2 : (k == 2) = false := by simpa using h2
      obtain ⟨hlo, hhi, hy⟩ := H.out.count h3 h2
      subst hy
      clear H h2 h3
      obtain ⟨m, rfl⟩ := Int.eq_ofNat_of_zero_le hlo
      have huw : IntKind.u64.wrap (m : Int) = (m : Int) := by
        have h2 : 2 ^ ln.toNat ≤ 2 ^ 64 := Nat.pow_le_pow_right (by omega) (by omega)
        have h3 : 0 < 2 ^ ln.toNat := Nat.two_pow_pos _
        simp at hhi
        rw [IntKind.wrap_u64]; omega
      rw [Int.toNat_natCast] at *
      have Hhi := hide hhi
      clear hhi
      go_enter Try.func54, Try.ntmps54
      go_wp2_with fail
      refine (put_ok _ _ x m _ (by omega) (by omega) (by omega) Hx.out Hhi.out).mono ?_
      rintro e w1 ⟨rfl, hb1⟩
      obtain ⟨hc1, hf1, hz1⟩ := bcell hb1
      go_wp2
      go_ret2
      exact ⟨by simp, below2 (below2 (below_new2 w _ _) (below_new _ _)) hb1⟩

end Go.Proofs.Ytieiamefominbaa
